import Derived.Test.YtnaeiccibhdknaaGreatDoorPA
import Derived.Shelf.Bits.Mul64
set_option linter.unusedSimpArgs false
set_option linter.unusedVariables false
noncomputable section
namespace Pure
open Esp Ev Go
def cmpS(a b:Bt):Int:=bif e0r a b then -1 else bif seq a b then 0 else 1
theorem g0r(a b:Bt):cmpS a b=0↔a=b:=by
 unfold cmpS;rw [<-a0h];have h:=c0v a b;cases h1:e0r a b
 ·cases h2:seq a b<;>simp
 ·have:seq a b=false:=by
   cases h2:seq a b
   ·rfl
   ·have e:=(a0h a b).1 h2
    subst e;rw[h1]at h;simp at h
  simp[this]
theorem v1p(a:Bt):e0r a a=false:=by
 have h:=c0v a a;rw[b0h,t2n]at h;simpa using h
theorem b2f(a b:Bt):cmpS b a= - cmpS a b:=by
 unfold cmpS;have h:=c0v a b;have h' :=c0v b a;have hs:seq b a=seq a b:=by
  cases h1:seq a b
  ·cases h2:seq b a
   ·rfl
   ·rw[(a0h b a).1 h2,b0h]at h1;cases h1
  ·rw[(a0h a b).1 h1,b0h]
 rw[hs]at h' ⊢;cases h1:seq a b
 ·rw[h1]at h h'
  cases h2:e0r a b
  ·rw[h2]at h h'
   have:e0r b a=true:=by simpa using h
   simp[this]
  ·rw[h2]at h h'
   have:e0r b a=false:=by simpa using h
   simp[this]
 ·have e:=(a0h a b).1 h1
  subst e;rw[v1p];rfl
theorem r0x:∀{x y z:List UInt8},Op.bytesLess x y=true->Op.bytesLess y z=true->Op.bytesLess x z=true
 |_,[],_,h,_=>by simp[Op.bytesLess]at h
 |_,_::_,[],_,h=>by simp[Op.bytesLess]at h
 |[],_::_,_::_,_,_=>rfl
 |a::x,b::y,c::z,h1,h2=>by
  simp only[Op.bytesLess,u2c,r2i,decide_eq_true_eq,beq_iff_eq]at h1 h2⊢;rcases h1 with h1|⟨h1,h1'⟩
  ·rcases h2 with h2|⟨h2,fU⟩
   ·exact .inl (UInt8.lt_trans h1 h2)
   ·exact .inl (h2▸h1)
  ·rcases h2 with h2|⟨h2,fU⟩
   ·exact .inl (h1▸h2)
   ·exact .inr ⟨h1.trans h2,r0x h1' fU⟩
theorem g2m(a b:Bt):cmpS a b<0↔e0r a b=true:=by
 unfold cmpS;cases e0r a b
 ·cases seq a b<;>simp
 ·simp
theorem l1p{a b c:Bt}(h1:cmpS a b<0)(h2:cmpS b c<0):cmpS a c<0:=by
 rw[g2m]at*;exact r0x h1 h2
theorem w0t(a b:Int):cmpI a b<0↔a<b:=by
 unfold cmpI;by_cases h:a<b
 ·simp[h]
 ·by_cases h2:a>b<;>simp[h,h2]
theorem p0l(a b:Int):cmpI a b=0↔a=b:=by
 unfold cmpI;by_cases h:a<b
 ·simp[h];omega
 ·by_cases h2:a>b
  ·simp[h,h2];omega
  ·simp[h,h2];omega
theorem s1z(a b:Int):cmpI b a= - cmpI a b:=by
 unfold cmpI;by_cases h:a<b
 ·have:¬b<a:=by omega
  simp[h,this]
 ·by_cases h2:b<a<;>simp[h,h2]
mutual
def ordV:Val->Val->Int
 |.mk k a s l,.mk k' a' s' l' =>bif cmpI k k' !=0 then cmpI k k' else bif cmpI a a' !=0 then cmpI a a' else bif cmpS s s' !=0 then cmpS s s' else ordL l l'
def ordL:List Val->List Val->Int
 |[],[]=>0
 |[],_::_=> -1
 |_::_,[]=>1
 |x::r,y::t=>bif ordV x y !=0 then ordV x y else ordL r t
end
theorem bnez{a:Int}(h:a≠0):(a !=0)=true:=by simpa using h
theorem bifz{a b:Int}:(bif a !=0 then a else b)=0↔a=0/\b=0:=by
 by_cases h:a=0
 ·simp[h]
 ·rw[bnez h,u2j]
  exact⟨λe=>absurd e h,λe=>absurd e.1 h⟩
theorem o0w{l:List Val}(h:∀x∈l,∀y,ordV x y=0↔x=y):∀m,ordL l m=0↔l=m:=by
 induction l with
 |nil=>intro m;cases m<;>simp[ordL]
 |cons x r ih=>
  intro m;cases m with
  |nil=>simp[ordL]
  |cons y t=>
   rw[ordL,bifz,h x (by simp),ih (λz hz=>h z (by simp[hz]))];simp
theorem r0e(v:Val):∀w,ordV v w=0↔v=w:=by
 induction v using f0t with
 |_ k a s l ih=>
  intro w;obtain⟨k',a',s',l'⟩:=w;rw[ordV,bifz,bifz,bifz,p0l,p0l,g0r,o0w ih];simp
theorem i0n(l m:List Val):ordL l m=0↔l=m:=o0w (λx _=>r0e x) m
theorem j1u{a b a' b' :Int}(h1:a' = -a)(h2:b' = -b):(bif a' !=0 then a' else b')= -(bif a !=0 then a else b):=by
 subst h1;subst h2;by_cases h:a=0
 ·simp[h]
 ·rw[bnez h,bnez (a:= -a) (by omega),u2j,u2j]
theorem s0a{l:List Val}(h:∀x∈l,∀y,ordV y x= - ordV x y):∀m,ordL m l= - ordL l m:=by
 induction l with
 |nil=>intro m;cases m<;>simp[ordL]
 |cons x r ih=>
  intro m;cases m with
  |nil=>simp[ordL]
  |cons y t=>
   rw[ordL,ordL];exact j1u (h x (by simp) y) (ih (λz hz=>h z (by simp[hz])) t)
theorem c2p(v:Val):∀w,ordV w v= - ordV v w:=by
 induction v using f0t with
 |_ k a s l ih=>
  intro w;obtain⟨k',a',s',l'⟩:=w;rw[ordV,ordV];exact j1u (s1z _ _) (j1u (s1z _ _) (j1u (b2f _ _) (s0a ih l')))
theorem q0f(l m:List Val):ordL m l= - ordL l m:=s0a (λx _=>c2p x) m
theorem q0n{a b c x y z:Int}(h1:(bif a !=0 then a else x)<0)(h2:(bif b !=0 then b else y)<0)(h:a<0->b<0->c<0)(dG:a=0->c=b)(hz2:b=0->c=a)(gM:a=0->b=0->x<0->y<0->z<0):(bif c !=0 then c else z)<0:=by
 by_cases ha:a=0
 ·by_cases hb:b=0
  ·have hc:c=0:=by rw[dG ha,hb]
   simp only[ha,hb,hc,bne_self_eq_false,u2k]at h1 h2⊢;exact gM ha hb h1 h2
  ·have hc:=dG ha
   have hb' :(b !=0)=true:=by simpa using hb
   rw[hb',u2j]at h2;rw[hc,hb',u2j];exact h2
 ·have iY:(a !=0)=true:=by simpa using ha
  rw[iY,u2j]at h1;by_cases hb:b=0
  ·rw[hz2 hb,iY,u2j]
   exact h1
  ·have hb' :(b !=0)=true:=by simpa using hb
   rw[hb',u2j]at h2;have:=h h1 h2;have hc:(c !=0)=true:=by simp;omega
   rw[hc,u2j];exact this
theorem m0h{l:List Val}(h:∀x∈l,∀y z,ordV x y<0->ordV y z<0->ordV x z<0):∀m k,ordL l m<0->ordL m k<0->ordL l k<0:=by
 induction l with
 |nil=>
  intro m k h1 h2;cases m with
  |nil=>simp[ordL]at h1
  |cons y t=>cases k with
   |nil=>simp[ordL]at h2
   |cons z u=>simp[ordL]
 |cons x r ih=>
  intro m k h1 h2;cases m with
  |nil=>simp[ordL]at h1
  |cons y t=>cases k with
   |nil=>simp[ordL]at h2
   |cons z u=>
    rw[ordL]at h1 h2⊢;exact q0n h1 h2 (h x (by simp) y z) (λe=>by rw[(r0e x y).1 e]) (λe=>by rw[(r0e y z).1 e]) λ_ _ h3 h4=>ih (λw hw=>h w (by simp[hw])) t u h3 h4
theorem n1p(v:Val):∀w u,ordV v w<0->ordV w u<0->ordV v u<0:=by
 induction v using f0t with
 |_ k a s l ih=>
  intro w u;obtain⟨k',a',s',l'⟩:=w;obtain⟨k2,a2,s2,l2⟩:=u;rw[ordV,ordV,ordV];intro h1 h2;refine q0n h1 h2 (λh3 h4=>?_) (λe=>by rw[(p0l _ _).1 e]) (λe=>by rw[(p0l _ _).1 e]) λ_ _ h1 h2=>
   q0n h1 h2 (λh3 h4=>?_) (λe=>by rw[(p0l _ _).1 e]) (λe=>by rw[(p0l _ _).1 e]) λ_ _ h1 h2=>
   q0n h1 h2 l1p (λe=>by rw[(g0r _ _).1 e]) (λe=>by rw[(g0r _ _).1 e]) λ_ _ h1 h2=>m0h ih l' l2 h1 h2
  ·rw[w0t]at*;omega
  ·rw[w0t]at*;omega
theorem k0d{l m k:List Val}:ordL l m<0->ordL m k<0->ordL l k<0:=m0h (λx _=>n1p x) m k
mutual
def vSz:Val->Nat
 |.mk _ _ _ l=>1+lSz l
def lSz:List Val->Nat
 |[]=>0
 |x::r=>1+vSz x+lSz r
end
theorem g0p:∀l:List Val,l.length<=lSz l
 |[]=>r2q _
 |x::r=>by have:=g0p r;rw[lSz,r2w];omega
theorem l0f:∀{l:List Val} {x:Val},x∈l->vSz x<lSz l
 |y::r,x,h=>by
  rw[lSz];rcases r2s.1 h with rfl|h
  ·omega
  ·have:=l0f h;omega
def fdV:List Val->List Val->Option Int
 |x::r,y::t=>bif ordV x y !=0 then some (ordV x y)else fdV r t
 |_,_=>none
theorem o1t:∀l m:List Val,ordL l m=match fdV l m with|some c=>c|none=>cmpI l.length m.length
 |[],[]=>by simp[ordL,fdV,cmpI]
 |[],y::t=>by
  have h:((0:Int)<((y::t).length:Int)):=by rw[r2w];omega
  simp only[ordL,fdV,cmpI,List.length_nil];rw[show decide (((0:Nat):Int)<((y::t).length:Int))=true by simp];rfl
 |x::r,[]=>by
  have h:¬(((x::r).length:Int)<(0:Int)):=by rw[r2w];omega
  have h2:(((x::r).length:Int) >(0:Int)):=by rw[r2w];omega
  simp only[ordL,fdV,cmpI,List.length_nil];rw[show decide (((x::r).length:Int)<((0:Nat):Int))=false from decide_eq_false h,show decide (((x::r).length:Int) >((0:Nat):Int))=true by simp]
  rfl
 |x::r,y::t=>by
  rw[ordL,fdV];by_cases h:ordV x y=0
  ·simp only[h,bne_self_eq_false,u2k]
   rw[o1t r t];cases fdV r t with
   |some c=>rfl
   |none=>
    simp only[cmpI,r2w];have e1:decide ((((r.length+1:Nat)):Int)<((t.length+1:Nat):Int))=decide ((r.length:Int)<(t.length:Int)):=by congr 1;apply propext;omega
    have e2:decide ((((r.length+1:Nat)):Int) >((t.length+1:Nat):Int))=decide ((r.length:Int) >(t.length:Int)):=by congr 1;apply propext;omega
    rw[e1,e2]
  ·have:(ordV x y !=0)=true:=by simpa using h
   simp[this]
theorem t0l(s:Bt):p0e (d0d s)=s:=by
 unfold p0e d0d;have:Lib.bytesOf (s.data.toList.map λc=>(c.toNat:Int))=s.data.toList:=by
  unfold Lib.bytesOf;rw[List.map_map]
  conv=>rhs;rw [<-List.map_id s.data.toList]
  apply List.map_congr_left;intro c _;simp
 rw[this]
theorem u0o:∀(x y:List UInt8) (i:Nat),i<x.length->i<y.length->(∀j,j<i->x[j]! =y[j]!)->x[i]! ≠y[i]! ->Op.bytesLess x y=decide (x[i]! <y[i]!)
 |[],_,_,h,_,_,_=>by simp at h
 |_::_,[],_,_,h,_,_=>by simp at h
 |a::x,b::y,0,_,_,_,aS=>by
  have k9:a≠b:=by simpa using aS
  have:(a==b)=false:=by simpa using k9
  simp[Op.bytesLess,this]
 |a::x,b::y,i+1,hx,hy,hj,aS=>by
  have h0:a=b:=by simpa using hj 0 (by omega)
  subst h0;have:=u0o x y i (by simpa using hx) (by simpa using hy) (λj h=>by simpa using hj (j+1) (by omega)) (by simpa using aS);have hl:¬a<a:=by simp
  simp[Op.bytesLess,this]
theorem u0m:∀(x y:List UInt8),(∀j,j<min x.length y.length->x[j]! =y[j]!)->Op.bytesLess x y=decide (x.length<y.length)
 |[],[],_=>rfl
 |[],_::_,_=>by simp[Op.bytesLess]
 |_::_,[],_=>by simp[Op.bytesLess]
 |a::x,b::y,hj=>by
  have h0:a=b:=by simpa using hj 0 (by simp)
  subst h0;have:=u0m x y λj h=>by simpa using hj (j+1) (by simp only[r2w];omega)
  simp[Op.bytesLess,this]
theorem same_eq:∀(x y:List UInt8),(∀j,j<min x.length y.length->x[j]! =y[j]!)->x.length=y.length->x=y
 |[],[],_,_=>rfl
 |[],_::_,_,h=>by simp at h
 |_::_,[],_,h=>by simp at h
 |a::x,b::y,hj,h=>by
  have h0:a=b:=by simpa using hj 0 (by simp)
  rw[h0,same_eq x y (λj h=>by simpa using hj (j+1) (by simp only[r2w];omega)) (by simpa using h)]
theorem l1r(a:Bt)(i:Nat):a[i]! =a.data.toList[i]! :=by
 by_cases h:i<a.size
 ·rw[getElem!_pos a i h,getElem!_pos a.data.toList i (by simpa using h)];rfl
 ·rw[getElem!_neg a i h,getElem!_neg a.data.toList i (by simpa using h)]
theorem cmpx(a b:Bt):Extern.BytealgCompare.cmp a b=cmpS a b:=by
 unfold Extern.BytealgCompare.cmp cmpS e0r seq;rw[ByteArray.toList_eq,ByteArray.toList_eq];have ha:a.size=a.data.toList.length:=by simp
 have hb:b.size=b.data.toList.length:=by simp
 split
 ·rename_i i h
  rw[List.find?_range_eq_some]at h;obtain⟨h1,h2,h3⟩:=h;rw[u2a]at h2;rw[l1r,l1r]at h1⊢;have aS:a.data.toList[i]! ≠b.data.toList[i]! :=by simpa using h1
  have hd:=u0o a.data.toList b.data.toList i (by omega) (by omega) (λj hj=>by
   have:=h3 j hj;rw[l1r,l1r]at this;simpa using this) aS
  rw[hd];have hs:(a.data.toList==b.data.toList)=false:=by
   rw[beq_eq_false_iff_ne];exact λe=>aS (by rw[e])
  rw[hs];by_cases hl:a.data.toList[i]! <b.data.toList[i]!
  ·rw[if_pos hl];simp only[hl,decide_true,u2j]
  ·rw[if_neg hl];simp only[hl,decide_false,u2k]
 ·rename_i h
  rw[List.find?_range_eq_none]at h;have bB:∀j,j<min a.data.toList.length b.data.toList.length->a.data.toList[j]! =b.data.toList[j]! :=λj hj=>by
   have:=h j (by omega);rw[l1r,l1r]at this;simpa using this
  rw[u0m _ _ bB,ha,hb];by_cases h1:a.data.toList.length<b.data.toList.length
  ·rw[if_pos h1];simp only[h1,decide_true,u2j]
  ·rw[if_neg h1]
   simp only[h1,decide_false,u2k];by_cases h2:a.data.toList.length>b.data.toList.length
   ·have hs:(a.data.toList==b.data.toList)=false:=by
     rw[beq_eq_false_iff_ne];intro e;rw[e]at h2;omega
    rw[if_pos h2,hs];rfl
   ·rw[if_neg h2,same_eq _ _ bB (by omega),beq_self_eq_true];rfl
theorem q1g(a b:Bt):q78z (d0d a,d0d b,())=some (cmpS a b,()):=by
 unfold q78z cmpN;simp only[r2g,cmpB,t0l,cmpx]
theorem k2f{k n:Int}{s:Bt}{l:List Val}(h:vOk (.mk k n s l)):l.length<=maxLen/\∀x∈l,vOk x:=by
 rw[vOk,c0s]at h;exact h.2.2.2
theorem y1p{ρ:Type}(self:Val×Val×Unit->Option Y5)(n:Nat)(v w:Val)(hv:v.l.length<=maxLen)(hs:∀x∈v.l,∀y∈w.l,self (x,y,())=some (ordV x y,()))(kx:Y6×Y6×Unit->Option ρ)(kr:Int×Unit->Option ρ):
  ∀(r p r' p' :List Val),v.l=p++r->w.l=p' ++r' ->p.length=p'.length->∀fuel,r.length<fuel->
  a0a (λrc=>n0v self n rc kx kr) fuel ((p.length:Int),(v,()),(w,()),())=match fdV r r' with|some c=>kr (c,())| none=>kx ((v,()),(w,()),()):=by
 intro r
 induction r with
 |nil=>
  intro p r' p' h1 h2 h3 fuel hf;obtain⟨m,rfl⟩:∃m,fuel=m+1:=⟨fuel - 1,by omega⟩;have e:decide ((p.length:Int)<(v.l.length:Int))=false:=by rw[decide_eq_false_iff_not,h1];simp
  rw[a0a];unfold n0v;dsimp only;rw[e,u2i,u2k,fdV,Val.eta,Val.eta];intro x xs y ys h;cases h
 |cons x r ih=>
  intro p r' p' h1 h2 h3 fuel hf;obtain⟨m,rfl⟩:∃m,fuel=m+1:=⟨fuel - 1,by omega⟩;have hlen:v.l.length=p.length+(r.length+1):=by rw[h1];simp
  have e:decide ((p.length:Int)<(v.l.length:Int))=true:=by rw[decide_eq_true_iff];omega
  rw[a0a];unfold n0v;dsimp only;cases r' with
  |nil=>
   have e2:decide ((p.length:Int)<(w.l.length:Int))=false:=by rw[decide_eq_false_iff_not,h2,h3];simp
   rw[e,e2,t2k,u2k,fdV,Val.eta,Val.eta];intro x xs y ys _ h;cases h
  |cons y r' =>
   have e2:decide ((p.length:Int)<(w.l.length:Int))=true:=by rw[decide_eq_true_iff,h2,h3];simp;omega
   have e3:ix v.l (p.length:Int)=some x:=a0r (by rw[h1];simp);have e4:ix w.l (p.length:Int)=some y:=by rw[h3];exact a0r (by rw[h2];simp)
   have e5:wI ((p.length:Int)+1)=((p++ [x]).length:Int):=by unfold maxLen at hv;rw[a0f (by omega) (by omega)];simp
   have i1:=ih (p++ [x]) r' (p' ++ [y]) (by simp[h1]) (by simp[h2]) (by simp[h3]) m (by simp at hf;omega);rw[e,e2,t2k,u2j,e3,e4,r2g,r2g,Val.eta,Val.eta,hs x (by rw[h1];simp) y (by rw[h2];simp),r2g,Val.eta,Val.eta,e5,fdV];dsimp only;cases hc:ordV x y !=0
   ·exact i1
   ·rfl
theorem n1n(v:Val):∀(w:Val) (n:Nat),vOk v->vSz v+2<=n->q38z n (v,w,())=some (ordV v w,()):=by
 induction v using f0t with
 |_ k a s l ih=>
  intro w n bY hn;obtain⟨k',a',s',l'⟩:=w;obtain⟨m,rfl⟩:∃m,n=m+1:=⟨n - 1,by omega⟩;obtain⟨h1,h2⟩:=k2f bY;rw[vSz]at hn;have hl:=g0p l;rw[q38z];unfold p1l;dsimp+instances only[b0e,n_mk,s_mk,l_mk];rw[ordV,q1g];have key:a0a (λiA=>n0v (q38z m) m iA (λ(z:Y6×Y6×Unit)=>
 (bif decide (((z.1.1.l.length:Int):Int)<(z.2.1.1.l.length:Int))then some ((-1:Int),())
 else
 (bif decide (((z.1.1.l.length:Int):Int) >(z.2.1.1.l.length:Int))then some (1,())
 else some (0,())))) (λz=>some (z.1,()))) (m) (0,((Val.mk k a s l),()),((Val.mk k' a' s' l'),()),())=some (ordL l l',()):=by
   refine(y1p (q38z m) m (.mk k a s l) (.mk k' a' s' l') h1 (λx hx y hy=>?_) _ _ l [] l' [] rfl rfl rfl m (by omega)).trans ?_
   ·exact ih x hx y m (h2 x hx) (by have:=l0f (show x∈l from hx);omega)
   ·rw[o1t]
    cases fdV l l' with
    |some c=>rfl
    |none=>
     dsimp+instances only[l_mk];unfold cmpI;cases decide ((l.length:Int)<(l'.length:Int))
     ·cases decide ((l.length:Int) >(l'.length:Int))<;>rfl
     ·rfl
  have hk:cmpI k k' =0\/cmpI k k' ≠0:=by omega
  rcases hk with hk|hk
  ·have aV:=(p0l k k').1 hk
   rw[hk];rw[decide_eq_false (show ¬k<k' by omega),decide_eq_false (show ¬k>k' by omega)];simp only[u2k,bne_self_eq_false];by_cases ha:cmpI a a' =0
   ·have haa:=(p0l a a').1 ha
    rw[ha,decide_eq_false (show ¬a<a' by omega),decide_eq_false (show ¬a>a' by omega)];simp only[u2k,bne_self_eq_false];by_cases hs:cmpS s s' =0
    ·have j0:=(g0r s s').1 hs
     rw[hs,j0,b0h];simp only[u2k,bne_self_eq_false,s2l];rw[j0]at key;exact key
    ·have:seq s s' =false:=by
      cases hq:seq s s'
      ·rfl
      ·exact absurd ((g0r s s').2 ((a0h s s').1 hq)) hs
     rw[this,bnez hs];rfl
   ·rw[bnez ha,u2j]
    unfold cmpI at ha⊢;cases h5:decide (a<a')
    ·cases h6:decide (a>a')
     ·rw[h5,h6]at ha;exact absurd rfl ha
     ·rfl
    ·rfl
  ·rw[bnez hk,u2j]
   unfold cmpI at hk⊢;cases h5:decide (k<k')
   ·cases h6:decide (k>k')
    ·rw[h5,h6]at hk;exact absurd rfl hk
    ·rfl
   ·rfl
theorem m1o(a b:Bt):q43z (a,b,())=some (cmpS a b,()):=by
 unfold q43z q63z cmpS;dsimp only;rw[b0h,b0h,r2g,r2g];dsimp only;have h:=c0v b a;cases h1:e0r a b
 ·cases h2:seq a b<;>rfl
 ·rfl
theorem q2d(a b c:Int)(n:Nat)(hn:5<=n):c2w n ([a,b,c],())=some (bif a !=0 then a else bif b !=0 then b else c,()):=by
 unfold c2w;refine(n1a n _ _ [a,b,c] n 0 (by simp) (by simp;omega)).trans ?_;unfold a0b u0f;dsimp only;cases a !=0
 ·rw[u2k,u2k]
  unfold a0b;dsimp only;cases b !=0
  ·rw[u2k,u2k]
   unfold a0b;dsimp only;cases hc:c !=0
   ·have:c=0:=by simpa using hc
    rw[this];rfl
   ·rfl
  ·rfl
 ·rfl
theorem c1m(cmpf:Val×Val×Unit->Option Y5)(w:List Val):∀(r p r' :List Val),(∀x∈r,∀y∈w,cmpf (x,y,())=some (ordV x y,()))->(p.length<=w.length->w.drop p.length=r')->p.length<=w.length->
  a0b (λ(i:Int) (x:Val) (u:Unit) (rec:Unit->Option Y5)=>bif decide ((i:Int) >=(w.length:Int))then some (1,())else(ix w i).bind λy=>(cmpf (x,y,())).bind λc=>bif c.1 !=0 then some (c.1,())else rec ())
   (λ_=>bif decide (((p.length+r.length:Nat):Int)<(w.length:Int))then some (-1,())else some (0,())) (p.length:Int) r ()=some (ordL r r',()):=by
 intro r
 induction r with
 |nil=>
  intro p r' _ h2 h3;have h4:=h2 h3;rw[a0b];cases r' with
  |nil=>
   have:w.length<=p.length:=by rw [<-List.drop_eq_nil_iff];exact h4
   rw[decide_eq_false (by simp;omega)];rfl
  |cons y r' =>
   have:p.length<w.length:=by
    rcases t2y p.length w.length with h|h
    ·exact h
    ·rw[List.drop_eq_nil_iff.2 h]at h4;cases h4
   rw[decide_eq_true (by simp;omega)];rfl
 |cons x r ih=>
  intro p r' h1 h2 h3;have h4:=h2 h3;rw[a0b];cases r' with
  |nil=>
   have:w.length<=p.length:=by rw [<-List.drop_eq_nil_iff];exact h4
   rw[decide_eq_true (by omega)];rfl
  |cons y r' =>
   have aJ:p.length<w.length:=by
    rcases t2y p.length w.length with h|h
    ·exact h
    ·rw[List.drop_eq_nil_iff.2 h]at h4;cases h4
   have hy:w[p.length]?=some y:=by
    have:=congrArg List.head? h4;rw[List.head?_drop]at this;exact this
   have h5:w.drop (p++ [x]).length=r' :=by
    rw[r2t,s2y, <-List.drop_drop,h4];rfl
   have i1:=ih (p++ [x]) r' (λz hz=>h1 z (by simp[hz])) (λ_=>h5) (by simp;omega);have e1:((p.length:Int)+1)=((p++ [x]).length:Int):=by simp
   have e2:p.length+(x::r).length=(p++ [x]).length+r.length:=by simp;omega
   rw[decide_eq_false (by omega),u2k,a0r hy,r2g,h1 x (by simp) y (r2v hy),r2g,ordL,e1,e2,i1];dsimp only;cases ordV x y !=0<;>rfl
theorem l0o(v:Val):∀(w:Val) (n:Nat),vOk v->vSz v+6<=n->k0i n (v,w,())=some (ordV v w,()):=by
 induction v using f0t with
 |_ k a s l ih=>
  intro w n bY hn;obtain⟨k',a',s',l'⟩:=w;obtain⟨m,rfl⟩:∃m,n=m+1:=⟨n - 1,by omega⟩;obtain⟨h1,h2⟩:=k2f bY;rw[vSz]at hn;have hl:=g0p l;rw[k0i];unfold h1f;dsimp+instances only[b0e,n_mk,s_mk,l_mk];have key:q1z (k0i m) m (l,l',())=some (ordL l l',()):=by
   unfold q1z;refine(a0c l (λi (u:Unit)=>(l,l',l,(l.length:Int),i,())) _ (λ(i:Int) (x:Val) (u:Unit) (rec:Unit->Option Y5)=>bif decide ((i:Int) >=(l'.length:Int))then some (1,())else(ix l' i).bind λy=>(k0i m (x,y,())).bind λc=>bif c.1 !=0 then some (c.1,())else rec ())
    (λ_=>bif decide ((l.length:Int)<(l'.length:Int))then some (-1,())else some (0,())) (λrec i u=>?_) (by unfold maxLen at h1;omega) m () (by omega)).trans ?_
   ·unfold x1s
    simp only[Val.eta]
   ·have:=c1m (k0i m) l' l [] l' (λx hx y hy=>ih x hx y m (h2 x hx) (by have:=l0f (show x∈l from hx);omega)) (λ_=>rfl) (by simp)
    rw[List.length_nil,s2u]at this;exact this
  rw[k0f,k0f,m1o,r2g,key,ordV];dsimp only;cases cmpI k k' !=0
  ·rw[u2k,u2k,r2g,r2g,r2g]
   dsimp only;rw[q2d _ _ _ m (by omega)];rfl
  ·rfl
theorem n0l(x y:List Val)(n:Nat)(h1:x.length<=maxLen)(h2:∀v∈x,vOk v)(hn:lSz x+6<=n):q90z n (x,y,())=some (ordL x y,()):=by
 have hl:=g0p x;have key:q2z n (x,y,())=some (ordL x y,()):=by
  unfold q2z;refine(a0c x (λi (u:Unit)=>(x,y,x,(x.length:Int),i,())) _ (λ(i:Int) (z:Val) (u:Unit) (rec:Unit->Option Y5)=>bif decide ((i:Int) >=(y.length:Int))then some (1,())else(ix y i).bind λw=>(k0i n (z,w,())).bind λc=>bif c.1 !=0 then some (c.1,())else rec ())
   (λ_=>bif decide ((x.length:Int)<(y.length:Int))then some (-1,())else some (0,())) (λrec i u=>?_) (by unfold maxLen at h1;omega) n () (by omega)).trans ?_
  ·unfold r1m
   simp only[Val.eta]
  ·have:=c1m (k0i n) y x [] y (λz hz w hw=>l0o z w n (h2 z hz) (by have:=l0f hz;omega)) (λ_=>rfl) (by simp)
   rw[List.length_nil,s2u]at this;exact this
 unfold q90z;dsimp only;rw[key];rfl
theorem g1d(x y:List Val)(n:Nat)(h1:x.length<=maxLen)(h2:∀v∈x,vOk v)(hn:lSz x+6<=n):q30z n (x,y,())=some (ordL x y,()):=by
 unfold q30z;dsimp only;rw[n1n (.mk 4 0 zb0 x) (.mk 4 0 zb0 y) n (by rw[vOk,c0s];exact⟨by unfold wfI;decide,by unfold wfI;decide,s2i _,h1,h2⟩) (by rw[vSz];omega),ordV,(g0r _ _).2 rfl];rfl
def tV(c:Int):Val:=bif c==2 then .mk 0 0 zb0 []else .mk 1 c zb0 []
mutual
def smV:Val->Val->Int
 |.mk k a s l,.mk k' a' s' l' =>bif (k==0) || (k' ==0)then 2 else bif (k !=4) || (k' !=4)then(bif ordV (.mk k a s l) (.mk k' a' s' l')==0 then 1 else 0)else bif (l.length:Int) !=(l'.length:Int)then 0 else smL 1 l l'
def smL(acc:Int):List Val->List Val->Int
 |x::r,y::t=>bif smV x y==2 then smL 2 r t else bif smV x y==0 then 0 else smL acc r t
 |_,_=>acc
end
theorem j2e{l:List Val}(h:∀x∈l,∀y,smV x y=0\/smV x y=1\/smV x y=2):∀(acc:Int) (m:List Val),(acc=1\/acc=2)->smL acc l m=0\/smL acc l m=1\/smL acc l m=2:=by
 induction l with
 |nil=>intro acc m ha;rw[smL]; · omega
       intro x r y t h;cases h
 |cons x r ih=>
  intro acc m ha;cases m with
  |nil=>rw[smL]; · omega
        intro x r y t _ h;cases h
  |cons y t=>
   rw[smL];have nY:=ih λz hz=>h z (by simp[hz]);cases smV x y==2
   ·rw[u2k]
    cases smV x y==0
    ·rw[u2k];exact nY acc t ha
    ·exact .inl rfl
   ·rw[u2j];exact nY 2 t (.inr rfl)
theorem u1c(v:Val):∀w,smV v w=0\/smV v w=1\/smV v w=2:=by
 induction v using f0t with
 |_ k a s l ih=>
  intro w;obtain⟨k',a',s',l'⟩:=w;rw[smV];cases (k==0) || (k' ==0)
  ·rw[u2k]
   cases (k !=4) || (k' !=4)
   ·rw[u2k]
    cases (l.length:Int) !=(l'.length:Int)
    ·rw[u2k];exact j2e ih 1 l' (.inl rfl)
    ·exact .inl rfl
   ·rw[u2j]
    cases ordV (.mk k a s l) (.mk k' a' s' l')==0
    ·exact .inl rfl
    ·exact .inr (.inl rfl)
  ·exact .inr (.inr rfl)
theorem g2j{c:Int}:((tV c).kind==0)=(c==2):=by
 unfold tV;cases h:c==2<;>rfl
theorem tV_n{c:Int}(h:(c==2)=false):(tV c).n=c:=by
 unfold tV;rw[h];rfl
theorem y1i(c:Int)(h:c=0\/c=1\/c=2)(d:Int):Right (tV c) d:=by
 rcases h with h|h|h
 ·subst h;exact .truth 0 d (.inl rfl)
 ·subst h;exact .truth 1 d (.inr rfl)
 ·subst h;exact .null d
theorem neI{a b:Nat}(h:((a:Int) !=(b:Int))=false):a=b:=by
 have h2:(a:Int)=b:=by simpa using h
 omega
def lsV(v w:Val):Int:=bif (v.kind !=w.kind) || ((v.kind !=2)&& (v.kind !=3))then 2 else bif decide (ordV v w<0)then 1 else 0
theorem w1v(v w:Val):lsV v w=0\/lsV v w=1\/lsV v w=2:=by
 unfold lsV;cases (v.kind !=w.kind) || ((v.kind !=2)&& (v.kind !=3))
 ·cases decide (ordV v w<0)
  ·exact .inl rfl
  ·exact .inr (.inl rfl)
 ·exact .inr (.inr rfl)
theorem x0b(b:Bool):n1i (b,())=some (tV (bif b then 1 else 0),()):=by cases b<;>rfl
theorem r1d{ρ:Type}(self:Val×Val×Unit->Option Y6)(n:Nat)(v w:Val)(hv:v.l.length<=maxLen)(hs:∀x∈v.l,∀y∈w.l,self (x,y,())=some (tV (smV x y),()))(kx:Y6×Y6×Unit->Option ρ)(kr:Y6×Unit->Option ρ):
  ∀(r p r' p' :List Val) (u:Val) (acc:Int),v.l=p++r->w.l=p' ++r' ->p.length=p'.length->r.length=r'.length->(acc=1\/acc=2)-> ∀fuel,r.length<fuel->
  ∃u',a0a (λrc=>j0x self n rc kx kr) fuel ((v.l.length:Int),(p.length:Int),(v,()),(w,()),(u,()),(tV acc,()),())=bif smL acc r r' ==0 then kr ((tV 0,()),())else kx ((u',()),(tV (smL acc r r'),()),()):=by
 intro r
 induction r with
 |nil=>
  intro p r' p' u acc h1 h2 h3 h4 ha fuel hf;obtain⟨m,rfl⟩:∃m,fuel=m+1:=⟨fuel - 1,by omega⟩;have e:decide ((p.length:Int)<(v.l.length:Int))=false:=by rw[decide_eq_false_iff_not,h1];simp
  have hr:r' =[]:=by cases r' with
   |nil=>rfl
   |cons y t=>simp at h4
  subst hr;refine⟨u,?_⟩;rw[a0a];unfold j0x;dsimp only;rw[e,u2k,smL]
  ·have:(acc==0)=false:=by rcases ha with rfl|rfl<;>rfl
   rw[this,u2k];simp only[Val.eta]
  ·intro x xs y ys h;cases h
 |cons x r ih=>
  intro p r' p' u acc h1 h2 h3 h4 ha fuel hf;obtain⟨m,rfl⟩:∃m,fuel=m+1:=⟨fuel - 1,by omega⟩;cases r' with
  |nil=>simp at h4
  |cons y r' =>
   have hlen:v.l.length=p.length+(r.length+1):=by rw[h1];simp
   have e:decide ((p.length:Int)<(v.l.length:Int))=true:=by rw[decide_eq_true_iff];omega
   have e3:ix v.l (p.length:Int)=some x:=a0r (by rw[h1];simp);have e4:ix w.l (p.length:Int)=some y:=by rw[h3];exact a0r (by rw[h2];simp)
   have e5:wI ((p.length:Int)+1)=((p++ [x]).length:Int):=by unfold maxLen at hv;rw[a0f (by omega) (by omega)];simp
   have i1:=λu acc ha=>ih (p++ [x]) r' (p' ++ [y]) u acc (by simp[h1]) (by simp[h2]) (by simp[h3]) (by simpa using h4) ha m (by simp at hf;omega);have gM:=hs x (by rw[h1];simp) y (by rw[h2];simp);rw[a0a];generalize a0a (λrc=>j0x self n rc kx kr) m=R at i1⊢;unfold j0x;dsimp only;simp only[e,e3,e4,e5,u2j,r2g,Val.eta,gM,smL,g2j];cases hc:smV x y==2
   ·simp only[u2k]
    rw[tV_n hc];cases hz:smV x y==0
    ·simp only[u2k]
     exact i1 u acc ha
    ·have eC:smV x y=0:=by simpa using hz
     rw[eC];exact⟨u,rfl⟩
   ·have oJ:smV x y=2:=by simpa using hc
    rw[oJ];simp only[u2j];exact i1 _ 2 (.inr rfl)
theorem j1a(v:Val):∀(w:Val) (n:Nat),vOk v->vSz v+7<=n->v0v n (v,w,())=some (tV (smV v w),()):=by
 induction v using f0t with
 |_ k a s l ih=>
  intro w n bY hn;obtain⟨k',a',s',l'⟩:=w;obtain⟨m,rfl⟩:∃m,n=m+1:=⟨n - 1,by omega⟩;obtain⟨h1,h2⟩:=k2f bY;have gD:=l0o (.mk k a s l) (.mk k' a' s' l') m bY (by omega);rw[vSz]at hn;have hl:=g0p l;rw[v0v];unfold h1o;dsimp+instances only[b0e,n_mk,s_mk,l_mk];rw[smV];cases h0:(k==0) || (k' ==0)
  ·simp only[u2k]
   cases h4:(k !=4) || (k' !=4)
   ·simp only[u2k]
    cases iN:(l.length:Int) !=(l'.length:Int)
    ·have mq:l.length=l'.length:=neI iN
     simp only[u2k];rw[x0b,r2g];dsimp only;obtain⟨u',key⟩:=r1d (ρ:=Val×Unit) (v0v m) m (.mk k a s l) (.mk k' a' s' l') h1 (λx hx y hy=>ih x hx y m (h2 x hx) (by have:=l0f (show x∈l from hx);omega)) (λz=>some (z.2.1.1,())) (λz=>some (z.1.1,())) l [] l' [] (.mk 0 0 zb0 []) 1 rfl rfl rfl mq (.inl rfl) m (by omega)
     simp only[Val.eta];refine Eq.trans key ?_;cases hz:smL 1 l l' ==0
     ·rfl
     ·have eC:smL 1 l l' =0:=by simpa using hz
      rw[eC];rfl
    ·rfl
   ·simp only[u2j]
    rw[gD,r2g];dsimp only;rw[x0b];cases ordV (.mk k a s l) (.mk k' a' s' l')==0<;>rfl
  ·rfl
theorem t1r(v w:Val)(n:Nat)(bY:vOk v)(hn:vSz v+6<=n):w0h n (v,w,())=some (tV (lsV v w),()):=by
 unfold w0h lsV;dsimp only;cases (v.kind !=w.kind) || ((v.kind !=2)&& (v.kind !=3))
 ·simp only[u2k,Val.eta,l0o v w n bY hn,r2g,x0b]
 ·rfl
def inR(x:Int):Bool:=decide (-9223372036854775808<=x)&&decide (x<=9223372036854775807)
theorem i2b(x:Int):wI x=(x+9223372036854775808)%18446744073709551616 - 9223372036854775808:=by show IntKind.wrap IntKind.i64 x=_;rw[IntKind.wrap_i64]
theorem n2v(a b:Int)(ha:inR a=true)(hb:inR b=true):m0c (a,b,())=some (wI (a+b),inR (a+b),()):=by
 unfold m0c inR at*;dsimp only;rw[i2b];simp only[r2i,decide_eq_true_eq]at ha hb;have:(decide ((a+b+9223372036854775808)%18446744073709551616 - 9223372036854775808>a)==decide (b>0))=(decide (-9223372036854775808<=a+b)&&decide (a+b<=9223372036854775807)):=by
  rw[Bool.eq_iff_iff];simp only[beq_iff_eq,r2i,decide_eq_true_eq,decide_eq_decide];omega
 rw[this]
theorem n2k(a b:Int)(ha:inR a=true)(hb:inR b=true):m0u (a,b,())=some (wI (a - b),inR (a - b),()):=by
 unfold m0u inR at*;dsimp only;rw[i2b];simp only[r2i,decide_eq_true_eq]at ha hb;have:(decide ((a - b+9223372036854775808)%18446744073709551616 - 9223372036854775808<a)==decide (b>0))=(decide (-9223372036854775808<=a - b)&&decide (a - b<=9223372036854775807)):=by
  rw[Bool.eq_iff_iff];simp only[beq_iff_eq,r2i,decide_eq_true_eq,decide_eq_decide];omega
 rw[this]
theorem shrN(a:Nat):bshr .u64 (a:Int) 32=((a / 4294967296:Nat):Int):=by
 unfold bshr;rw[show(2:Int) ^ (min (32:Int).toNat IntKind.u64.bits)=4294967296 from rfl,Int.fdiv_eq_ediv_of_nonneg _ (by omega)]
 omega
theorem s1b(a:Nat)(ha:a<18446744073709551616):band .u64 (a:Int) 4294967295=((a%4294967296:Nat):Int):=Go.Proofs.Mul64.maskN a ha
theorem z1w(x y:Nat)(hx:x<18446744073709551616)(hy:y<18446744073709551616):q67z (x,y,())=some (((x*y / 18446744073709551616:Nat):Int),((x*y%18446744073709551616:Nat):Int),()):=by
 obtain⟨bd,bt,bw,kY⟩:=Lib.mul64_hi x y hx hy;have ba:=Lib.half_mul_le (a:=x / 4294967296) (b:=y / 4294967296) (by omega) (by omega);have bb:=Lib.half_mul_le (a:=x / 4294967296) (b:=y%4294967296) (by omega) (by omega);have bc:=Lib.half_mul_le (a:=x%4294967296) (b:=y / 4294967296) (by omega) (by omega);have pf:x / 4294967296*(y / 4294967296)<18446744073709551616:=by omega
 have p4:x / 4294967296*(y%4294967296)<18446744073709551616:=by omega
 have oO:x%4294967296*(y / 4294967296)<18446744073709551616:=by omega
 have bh1:x / 4294967296*(y / 4294967296)+(x / 4294967296*(y%4294967296)+x%4294967296*(y%4294967296) / 4294967296) / 4294967296<18446744073709551616:=by omega
 have bh:x / 4294967296*(y / 4294967296)+(x / 4294967296*(y%4294967296)+x%4294967296*(y%4294967296) / 4294967296) / 4294967296+((x / 4294967296*(y%4294967296)+x%4294967296*(y%4294967296) / 4294967296)%4294967296+x%4294967296*(y / 4294967296)) / 4294967296<18446744073709551616:=by omega
 unfold q67z;dsimp only;simp only[s1b x hx,s1b y hy,shrN,Go.Proofs.Mul64.mulN,Go.Proofs.Mul64.addN,Go.Proofs.Mul64.wrapN _ bd,Go.Proofs.Mul64.wrapN _ p4,Go.Proofs.Mul64.wrapN _ bt,s1b _ bt,Go.Proofs.Mul64.wrapN _ oO,Go.Proofs.Mul64.wrapN _ bw,Go.Proofs.Mul64.wrapN _ pf,Go.Proofs.Mul64.wrapN _ bh1,Go.Proofs.Mul64.wrapN _ bh,Go.Proofs.Mul64.wrapM (x*y)];rw[kY]
theorem r1c(a:Int)(ha:inR a=true):t1g (a,())=some ((a.natAbs:Int),()):=by
 unfold t1g inR at*;simp only[r2i,decide_eq_true_eq]at ha;dsimp only;simp only[IntKind.wrap_u64];by_cases h:a<0
 ·rw[decide_eq_true h,u2j]
  congr 2;omega
 ·rw[decide_eq_false h,u2k]
  congr 2;omega
theorem q2e(a b:Int)(ha:inR a=true)(hb:inR b=true):∃z,m0t (a,b,())=some (z,inR (a*b),())/\(inR (a*b)=true->z=a*b):=by
 have h1:=r1c a ha;have h2:=r1c b hb;have h3:=z1w a.natAbs b.natAbs (by unfold inR at ha;simp only[r2i,decide_eq_true_eq]at ha;omega) (by unfold inR at hb;simp only[r2i,decide_eq_true_eq]at hb;omega);have fV:(a*b).natAbs=a.natAbs*b.natAbs:=Int.natAbs_mul a b;have oK:(a<0↔b<0)->0<=a*b:=λh=>by
  rcases(show a<0\/0<=a by omega)with h1|h1
  ·exact Int.mul_nonneg_of_nonpos_of_nonpos (by omega) (by have:=h.1 h1;omega)
  ·exact Int.mul_nonneg h1 (by rcases(show b<0\/0<=b by omega)with h2|h2
                               ·have:=h.2 h2;omega
                               ·exact h2)
 have oD:¬(a<0↔b<0)->a*b<=0:=λh=>by
  rcases(show a<0\/0<=a by omega)with h1|h1
  ·exact Int.mul_nonpos_of_nonpos_of_nonneg (by omega) (by rcases(show b<0\/0<=b by omega)with h2|h2
                                                           ·exact absurd ⟨λ_=>h2,λ_=>h1⟩ h
                                                           ·exact h2)
  ·exact Int.mul_nonpos_of_nonneg_of_nonpos h1 (by rcases(show b<0\/0<=b by omega)with h2|h2
                                                   ·omega
                                                   ·exact absurd ⟨λh=>by omega,λh=>by omega⟩ h)
 unfold m0t;dsimp only;rw[h1,h2,r2g,r2g];dsimp only;rw[h3,r2g];dsimp only;rw [<-fV];generalize a*b=m at*;have mH:(decide (a<0)==decide (b<0))=decide (a<0↔b<0):=by
  by_cases h4:a<0<;>by_cases h5:b<0<;>simp[h4,h5]
 rw[mH];by_cases hs:(a<0↔b<0)
 ·have hm:=oK hs
  rw[decide_eq_true hs];simp only[s2l,t2m,Bool.and_true,u2k];by_cases hin:m<=9223372036854775807
  ·have e1:inR m=true:=by unfold inR;simp only[r2i,decide_eq_true_eq];omega
   have e2:((((m.natAbs / 18446744073709551616:Nat):Int) !=0) || decide (((m.natAbs%18446744073709551616:Nat):Int) >9223372036854775808) || (((m.natAbs%18446744073709551616:Nat):Int)==9223372036854775808))=false:=by
    simp only[r2x,bne_eq_false_iff_eq,decide_eq_false_iff_not,beq_eq_false_iff_ne];omega
   rw[e2,u2k,e1];refine⟨_,rfl,λ_=>?_⟩;rw[a0f (by omega) (by omega)];omega
  ·have e1:inR m=false:=by unfold inR;simp only[Bool.and_eq_false_iff,decide_eq_false_iff_not];omega
   have e2:((((m.natAbs / 18446744073709551616:Nat):Int) !=0) || decide (((m.natAbs%18446744073709551616:Nat):Int) >9223372036854775808) || (((m.natAbs%18446744073709551616:Nat):Int)==9223372036854775808))=true:=by
    simp only[u2c,bne_iff_ne,decide_eq_true_eq,beq_iff_eq];omega
   rw[e2,u2j,e1];exact⟨_,rfl,λh=>by cases h⟩
 ·have hm:=oD hs
  rw[decide_eq_false hs];simp only[s2l,t2m,Bool.and_false,t2i,u2j];by_cases hin: -9223372036854775808<=m
  ·have e1:inR m=true:=by unfold inR;simp only[r2i,decide_eq_true_eq];omega
   have e2:((((m.natAbs / 18446744073709551616:Nat):Int) !=0) || decide (((m.natAbs%18446744073709551616:Nat):Int) >9223372036854775808))=false:=by
    simp only[r2x,bne_eq_false_iff_eq,decide_eq_false_iff_not];omega
   rw[e2,u2k,e1];refine⟨_,rfl,λ_=>?_⟩;rw[i2b,IntKind.wrap_u64];omega
  ·have e1:inR m=false:=by unfold inR;simp only[Bool.and_eq_false_iff,decide_eq_false_iff_not];omega
   have e2:((((m.natAbs / 18446744073709551616:Nat):Int) !=0) || decide (((m.natAbs%18446744073709551616:Nat):Int) >9223372036854775808))=true:=by
    simp only[u2c,bne_iff_ne,decide_eq_true_eq];omega
   rw[e2,u2j,e1];exact⟨_,rfl,λh=>by cases h⟩
def nV(x:Int):Val:=.mk 2 x zb0 []
def zV:Val:=.mk 0 0 zb0 []
theorem k2t:seq zb1 zb1=true:=b0h _
theorem p2q(a b:Int)(ha:inR a=true)(hb:inR b=true)(n:Nat):q88z n (zb1,nV a,nV b,())=some (bif inR (a+b)then nV (a+b)else zV,bif inR (a+b)then 0 else 4,()):=by
 unfold q88z;dsimp only;have h:=n2v a b ha hb;rw[k2t,u2j];unfold nV;dsimp+instances only[b0e,n_mk];rw[h,r2g];dsimp only;cases hi:inR (a+b)
 ·rfl
 ·have:wI (a+b)=a+b:=by unfold inR at hi;simp only[r2i,decide_eq_true_eq]at hi;exact a0f hi.1 hi.2
  rw[this];rfl
theorem l2n(a b:Int)(ha:inR a=true)(hb:inR b=true)(n:Nat):q88z n (zb2,nV a,nV b,())=some (bif inR (a - b)then nV (a - b)else zV,bif inR (a - b)then 0 else 4,()):=by
 unfold q88z;dsimp only;have h:=n2k a b ha hb;rw[show seq zb2 zb1=false by decide+kernel,show seq zb2 zb2=true from b0h _,u2j,u2k]
 unfold nV;dsimp+instances only[b0e,n_mk];rw[h,r2g];dsimp only;cases hi:inR (a - b)
 ·rfl
 ·have:wI (a - b)=a - b:=by unfold inR at hi;simp only[r2i,decide_eq_true_eq]at hi;exact a0f hi.1 hi.2
  rw[this];rfl
theorem l2i(a b:Int)(ha:inR a=true)(hb:inR b=true)(n:Nat):q88z n (zb3,nV a,nV b,())=some (bif inR (a*b)then nV (a*b)else zV,bif inR (a*b)then 0 else 4,()):=by
 unfold q88z;dsimp only;obtain⟨z,h,hz⟩:=q2e a b ha hb;rw[show seq zb3 zb1=false by decide+kernel,show seq zb3 zb2=false by decide+kernel,show seq zb3 zb3=true from b0h _,u2j,u2k,u2k]
 unfold nV;dsimp+instances only[b0e,n_mk];rw[h,r2g];dsimp only;cases hi:inR (a*b)
 ·rfl
 ·rw[hz hi];rfl
theorem n0j{v:Val}{d:Int}(h:Right v d):chk v d=0:=by
 induction h with
 |null d=>rw[chk,b0h];rfl
 |truth a d h=>rcases h with rfl|rfl<;>(rw[chk,b0h];rfl)
 |int a d h=>rw[chk,b0h];rfl
 |text s d h1 h2=>
  rw[chk];rw[show((3:Int)==0)=false from rfl,show((3:Int)==1)=false from rfl,show((3:Int)==2)=false from rfl,show((3:Int)==3)=true from rfl,h2]
  simp only[u2k,u2j];rw[show decide ((s.size:Int) >4000)=false by rw[decide_eq_false_iff_not];omega];rfl
 |list l d h1 h2 h3 ih=>
  have hc:∀(r:List Val),(∀x∈r,chk x (d+1)=0)->chks r (d+1)=0:=by
   intro r
   induction r with
   |nil=>intro _;rfl
   |cons x r ih2=>
    intro hr;rw[chks,hr x (by simp)];exact ih2 λy hy=>hr y (by simp[hy])
  rw[chk,hc l ih];rw[show((4:Int)==0)=false from rfl,show((4:Int)==1)=false from rfl,show((4:Int)==2)=false from rfl,show((4:Int)==3)=false from rfl,show((4:Int)==4)=true from rfl]
  simp only[u2k,u2j];rw[show decide ((l.length:Int) >30)=false by rw[decide_eq_false_iff_not];omega,show decide (d>6)=false by rw[decide_eq_false_iff_not];omega,b0h];rfl
theorem b0k{v:Val}{d:Int}(h:Right v d):vOk v:=by
 induction h with
 |null d=>rw[vOk,c0s];exact⟨by unfold wfI;decide,by unfold wfI;decide,s2i _,s2i _,λx hx=>by cases hx⟩
 |truth n d h=>
  rw[vOk,c0s];refine⟨by unfold wfI;decide,?_,s2i _,s2i _,λx hx=>by cases hx⟩;rcases h with rfl|rfl<;>(unfold wfI;decide)
 |int n d h=>rw[vOk,c0s];exact⟨by unfold wfI;decide,h,s2i _,s2i _,λx hx=>by cases hx⟩
 |text s d h1 h2=>rw[vOk,c0s];exact⟨by unfold wfI;decide,by unfold wfI;decide,by unfold maxLen;omega,s2i _,λx hx=>by cases hx⟩
 |list l d h1 h2 h3 ih=>rw[vOk,c0s];exact⟨by unfold wfI;decide,by unfold wfI;decide,s2i _,by unfold maxLen;omega,ih⟩
theorem o1e{v:Val}{d:Int}(h:Right v d):∀d',d' <=d->Right v d' :=by
 induction h with
 |null d=>exact λd' _=>.null d'
 |truth n d h=>exact λd' _=>.truth n d' h
 |int n d h=>exact λd' _=>.int n d' h
 |text s d h1 h2=>exact λd' _=>.text s d' h1 h2
 |list l d h1 h2 h3 ih=>exact λd' hd=>.list l d' h1 (by omega) λx hx=>ih x hx (d' +1) (by omega)
theorem f0l{v:Val}{d:Int}(h:Right v d):v.l.length<=30/\v.s.size<=4000:=by
 cases h with
 |null=>exact⟨s2i _,s2i _⟩
 |truth=>exact⟨s2i _,s2i _⟩
 |int=>exact⟨s2i _,s2i _⟩
 |text s d h1 h2=>exact⟨s2i _,h1⟩
 |list l d h1 h2 h3=>exact⟨h1,s2i _⟩
theorem i1y{v:Val}{d:Int}(h:Right v d):v.kind=2->inR v.n=true:=by
 intro hk;cases h with
 |int n d h=>exact h
 |null=>simp[b0e]at hk
 |truth=>simp[b0e]at hk
 |text=>simp[b0e]at hk
 |list=>simp[b0e]at hk
theorem l0u{v:Val}{d:Int}(h:Right v d):∀x∈v.l,Right x (d+1):=by
 cases h with
 |list l d h1 h2 h3=>exact h3
 |null=>intro x hx;cases hx
 |truth=>intro x hx;cases hx
 |int=>intro x hx;cases hx
 |text=>intro x hx;cases hx
theorem j2u{n b:Nat}(h:n<=1000)(hb:b<=1000):room n b=true:=e0c h hb
theorem m0x{v:Val}(h:Right v 1)(n:Nat)(hn:60<=n):q76z n (v,())=some ((v.kind,v.n,v.s,()),v.l,()):=by
 have hl:=(f0l h).1;have hs:=l0u h;obtain⟨k,a,s,l⟩:=v;unfold q76z;dsimp+instances only[b0e,n_mk,s_mk,l_mk];rw[l_mk]at hl hs;rw[w1s n _ _ l n _ _ _ (by omega) (by omega)];have key:∀(r p:List Val) (i:Int),(∀x∈r,Right x 2)->p.length+r.length<=30->
   a0b (m0e n (λ_=>none)) (λ(z:Y26×Y6×List Val×Unit)=>some ((z.1.1,z.1.2.1,z.1.2.2.1,()),z.2.2.1,())) i r ((k,a,s,()),((.mk 0 0 zb0 []),()),p,())=some ((k,a,s,()),p++r,()):=by
  intro r
  induction r with
  |nil=>intro p i _ _;simp[a0b]
  |cons x r ih=>
   intro p i hx hl;have h1:=n0j (hx x (by simp));rw[a0b];generalize hR:a0b (m0e n (λ_=>none)) _ (i+1) r=R;unfold m0e;dsimp only;rw[Val.eta,s0k x 2 n (by omega) (by omega) (by simp;omega) h1,r2g];dsimp only;rw[Val.eta,b0v (j2u (by simp at hl⊢;omega) (by omega)), <-hR];refine(ih (p++ [x]) (i+1) (λy hy=>hx y (by simp[hy])) (by simp at hl⊢;omega)).trans ?_;simp
 exact(key l [] 0 hs (by simp;omega)).trans (by simp)
def gI(z:Int):Val×Int:=(bif inR z then nV z else zV,bif inR z then 0 else 4)
def p0p(sg:Bt)(a b:Val):Val×Int:=
 bif (seq sg zb1 || seq sg zb2) || seq sg zb3 then
  (bif (a.kind==0) || (b.kind==0)then(zV,0)
  else bif (a.kind==2)&& (b.kind==2)then gI (bif seq sg zb1 then a.n+b.n else bif seq sg zb2 then a.n - b.n else a.n*b.n)
  else bif (seq sg zb1&& (a.kind==3))&& (b.kind==3)then(bif decide (((a.s.size+b.s.size:Nat):Int) >4000)then(zV,2)else(.mk 3 0 (a.s++b.s) [],0))
  else bif (seq sg zb1&& (a.kind==4))&& (b.kind==4)then(bif decide (((a.l.length+b.l.length:Nat):Int) >30)then(zV,2)else(.mk 4 0 zb0 (a.l++b.l),0))
  else(zV,3))
 else(zV,5)
theorem a2g(sg:Bt){a b:Val}(ha:Right a 1)(hb:Right b 1)(n:Nat)(hn:100<=n):q88z n (sg,a,b,())=some ((p0p sg a b).1,(p0p sg a b).2,()):=by
 have la:=f0l ha;have lb:=f0l hb;have ia:=i1y ha;have ib:=i1y hb;have ca:=m0x ha n (by omega);have cb:=m0x hb n (by omega);have w1:wI ((a.s.size:Int)+(b.s.size:Int))=((a.s.size+b.s.size:Nat):Int):=by rw[a0f (by omega) (by omega)];omega
 have w2:wI ((a.l.length:Int)+(b.l.length:Int))=((a.l.length+b.l.length:Nat):Int):=by rw[a0f (by omega) (by omega)];omega
 have c1:cat? a.s b.s=some (a.s++b.s):=by unfold cat?;rw[if_pos (by omega)]
 have ints:∀sg:Bt,(a.kind==0 || b.kind==0)=false->(a.kind==2&&b.kind==2)=true->q88z n (sg,a,b,())=q88z n (sg,nV a.n,nV b.n,()):=by
  intro sg h0 h2;unfold q88z nV;dsimp+instances only[b0e,n_mk,s_mk,l_mk];rw[h0,h2];rfl
 by_cases hint:(a.kind==2&&b.kind==2)=true
 ·have h2:=hint
  rw[r2i]at h2;have ka:a.kind=2:=by simpa using h2.1
  have kb:b.kind=2:=by simpa using h2.2
  have h0:(a.kind==0 || b.kind==0)=false:=by rw[ka,kb];rfl
  unfold p0p gI;rw[h0,hint];cases h1:seq sg zb1 with
  |true=>
   rw[(a0h _ _).1 h1,ints _ h0 hint,p2q a.n b.n (ia ka) (ib kb) n];rfl
  |false=>
   cases h3:seq sg zb2 with
   |true=>
    rw[(a0h _ _).1 h3,ints _ h0 hint,l2n a.n b.n (ia ka) (ib kb) n];rfl
   |false=>
    cases h4:seq sg zb3 with
    |true=>
     rw[(a0h _ _).1 h4,ints _ h0 hint,l2i a.n b.n (ia ka) (ib kb) n];rfl
    |false=>
     unfold q88z;dsimp only;rw[h1,h3,h4,h0];rfl
 ·have hi:(a.kind==2&&b.kind==2)=false:=by simpa using hint
  unfold q88z p0p;dsimp only;rw[Val.eta,Val.eta,hi,w1,w2,c1,ca,cb];cases h1:seq sg zb1 with
  |true=>
   cases h0:(a.kind==0 || b.kind==0)with
   |true=>rfl
   |false=>
    cases h3:((true&&a.kind==3)&&b.kind==3)with
    |true=>
     cases decide (((a.s.size+b.s.size:Nat):Int) >4000)<;>rfl
    |false=>
     cases h4:((true&&a.kind==4)&&b.kind==4)with
     |true=>
      cases decide (((a.l.length+b.l.length:Nat):Int) >30)with
      |true=>rfl
      |false=>
       simp only[u2j,u2k,r2g];rw[b0v (j2u (by rw[r2t];omega) (by omega))];rfl
     |false=>rfl
  |false=>
   cases h3:seq sg zb2 with
   |true=>cases (a.kind==0 || b.kind==0)<;>rfl
   |false=>
    cases h4:seq sg zb3 with
    |true=>cases (a.kind==0 || b.kind==0)<;>rfl
    |false=>rfl
theorem Term.eta (t:Term):Term.mk t.kind t.v t.name t.a=t:=by cases t;rfl
theorem Term.eta2 (t:Term):Term.mk t.kind (Val.mk t.v.kind t.v.n t.v.s t.v.l) t.name t.a=t:=by rw[Val.eta,Term.eta]
theorem v1a(k:Int)(v:Val)(s:Bt)(l:List Term):(Term.mk k v s l).kind=k:=rfl
theorem u1a(k:Int)(v:Val)(s:Bt)(l:List Term):(Term.mk k v s l).v=v:=rfl
theorem m1a(k:Int)(v:Val)(s:Bt)(l:List Term):(Term.mk k v s l).name=s:=rfl
theorem z1d(k:Int)(v:Val)(s:Bt)(l:List Term):(Term.mk k v s l).a=l:=rfl
mutual
theorem w0u{p:Term->Prop}(h:∀k v s l,(∀x∈l,p x)->p (.mk k v s l)):∀t,p t
 |.mk k v s l=>h k v s l (a1f h l)
theorem a1f{p:Term->Prop}(h:∀k v s l,(∀x∈l,p x)->p (.mk k v s l)):∀l:List Term,∀x∈l,p x
 |[]=>λ_ hx=>by cases hx
 |y::r=>List.forall_mem_cons.2 ⟨w0u h y,a1f h r⟩
end
theorem x0d(l:List Bt)(s:Bt)(n:Nat)(hl:l.length<=100)(hn:200<=n):q26z n (l,s,())=some (hasL l s,()):=by
 obtain⟨j,h1,h2⟩:=u0i s (λ_=>some (-1,())) rfl l 0 (by omega);have h3:q27z n (l,s,())=some (j,()):=
  (c0j l (λi (u:Unit)=>(l,s,(l.length:Int),i,())) _ (λ(i:Int) (x:Bt) (u:Unit) (rec:Unit->Option Y5)=>bif seq s x then some (i,())else rec u) (λ_=>some (-1,()))
   (λrec i u=>rfl) (by omega) n () (by omega)).trans h1
 unfold q26z;dsimp only;rw[h3,r2g];dsimp only;rw[h2]
def resB(s:Bt):Bool:=((q82z 200 (s,())).getD (false,())).1
theorem f1z(s:Bt)(n:Nat)(hn:200<=n):q82z n (s,())=some (resB s,()):=by
 unfold resB;unfold q82z;dsimp only;rw[x0d _ s n (by decide) hn,x0d _ s 200 (by decide) (by omega)];rfl
def o0e(s:Bt):Bool:=nmB s&& !resB s
theorem w0y(s:Bt)(n:Nat)(hn:200<=n):f0u n (s,())=some (o0e s,()):=by
 unfold f0u o0e;dsimp only;rw[h0v s n (by omega),r2g];cases nmB s with
 |false=>rfl
 |true=>dsimp only;rw[u2j,f1z s n hn];rfl
def arN(s:Bt):Int×Bool:=
 bif ((((((((seq s zb1) || seq s zb2) || seq s zb3) || seq s zb15) || seq s zb16) || seq s zb11) || seq s zb12) || seq s zb13) || seq s zb18 then(2,true)else bif (((((seq s zb7) || seq s zb4) || seq s zb8) || seq s zb9) || seq s zb5) || seq s zb6 then(1,true)else bif (seq s zb10) || seq s zb19 then(-1,true)else(0,false)
theorem x1z(s:Bt):a2u (s,())=some ((arN s).1,(arN s).2,()):=by
 unfold a2u arN;dsimp only;cases h43:seq s zb1 with
 |true=>simp only[u2j,u2k,t2n,t2d,t2i,s2q]
 |false=>
  cases h45:seq s zb2 with
  |true=>simp only[u2j,u2k,t2n,t2d,t2i,s2q]
  |false=>
   cases h42:seq s zb3 with
   |true=>simp only[u2j,u2k,t2n,t2d,t2i,s2q]
   |false=>
    cases h61:seq s zb15 with
    |true=>simp only[u2j,u2k,t2n,t2d,t2i,s2q]
    |false=>
     cases bQ:seq s zb16 with
     |true=>simp only[u2j,u2k,t2n,t2d,t2i,s2q]
     |false=>
      cases nR:seq s zb11 with
      |true=>simp only[u2j,u2k,t2n,t2d,t2i,s2q]
      |false=>
       cases jm:seq s zb12 with
       |true=>simp only[u2j,u2k,t2n,t2d,t2i,s2q]
       |false=>
        cases kN:seq s zb13 with
        |true=>simp only[u2j,u2k,t2n,t2d,t2i,s2q]
        |false=>
         cases kE:seq s zb18 with
         |true=>simp only[u2j,u2k,t2n,t2d,t2i,s2q]
         |false=>
          cases ji:seq s zb7 with
          |true=>simp only[u2j,u2k,t2n,t2d,t2i,s2q]
          |false=>
           cases fI:seq s zb4 with
           |true=>simp only[u2j,u2k,t2n,t2d,t2i,s2q]
           |false=>
            cases fP:seq s zb8 with
            |true=>simp only[u2j,u2k,t2n,t2d,t2i,s2q]
            |false=>
             cases gK:seq s zb9 with
             |true=>simp only[u2j,u2k,t2n,t2d,t2i,s2q]
             |false=>
              cases kG:seq s zb5 with
              |true=>simp only[u2j,u2k,t2n,t2d,t2i,s2q]
              |false=>
               cases fT:seq s zb6 with
               |true=>simp only[u2j,u2k,t2n,t2d,t2i,s2q]
               |false=>
                cases fS:seq s zb10 with
                |true=>simp only[u2j,u2k,t2n,t2d,t2i,s2q]
                |false=>
                 cases fK:seq s zb19 with
                 |true=>simp only[u2j,u2k,t2n,t2d,t2i,s2q]
                 |false=>
                  rfl
def zrB(v:Val):Bool:=((((v.kind==0)&& (v.n==0))&& (seq v.s zb0))&& ((v.l.length:Int)==0))
def lstB(b:List Y21)(s:Bt)(x:Term):Int:=
 bif seq s zb5 then(bif x.kind !=2 then 3 else 0)
 else bif seq s zb6 then(bif x.kind !=2 then 3 else bif !(a0k .str .bool false b x.name)then 3 else 0)else 0
def hdT(l:List Term):Term:=l.headD (.mk 0 (.mk 0 0 zb0 []) zb0 [])
mutual
def tchk(b:List Y21):Term->Int->Int
 |.mk k v s a,d=>
  bif decide (d>6)then 2
  else bif k==1 then(bif (!(seq s zb0)) || decide ((a.length:Int) >0)then 6 else bif v.kind==4 then 6 else chk v 1)
  else bif k==2 then(bif (!zrB v) || decide ((a.length:Int) >0)then 6 else bif !o0e s then 6 else bif !f0a .str .bool b s then 5 else 0)
  else bif k==3 then(bif (!zrB v) || ((a.length:Int) !=1)then 6 else bif (hdT a).kind !=2 then 6 else bif !nmB s then 6 else l0d b a (d+1))
  else bif k==4 then(bif ((!(arN s).2) || !zrB v) || (decide ((arN s).1>=0)&& ((a.length:Int) !=(arN s).1))then 6 else bif decide ((a.length:Int) >30)then 2
   else bif l0d b a (d+1) !=0 then l0d b a (d+1)else lstB b s (hdT a))
  else 6
def l0d(b:List Y21):List Term->Int->Int
 |[],_=>0
 |x::r,d=>bif tchk b x d !=0 then tchk b x d else l0d b r d
end
theorem s0z{ρ:Type}(self:Term×List Y21×Int×Unit->Option Y5)(n:Nat)(b:List Y21)(d:Int)(hd:wI (d+1)=d+1)(o:Term)(kr:Int×Unit->Option ρ)(k:List Y21×Int×Y12×Unit->Option ρ):
  ∀(l:List Term) (i:Int),(∀x∈l,self (x,b,d+1,())=some (tchk b x (d+1),()))->a0b (h0f self n kr) k i l (b,d,(o,()),())=bif l0d b l (d+1) !=0 then kr (l0d b l (d+1),())else k (b,d,(o,()),())
 |[],_,_=>rfl
 |x::r,i,h=>by
  rw[a0b];have ih:=s0z self n b d hd o kr k r (i+1) λy hy=>h y (by simp[hy]);generalize a0b (h0f self n kr) k (i+1) r=R at ih;unfold h0f;dsimp only;rw[Term.eta2,Term.eta2,hd,h x (by simp),r2g,l0d];dsimp only;cases hc:tchk b x (d+1) !=0 with
  |true=>rw[u2j,u2j,hc];rfl
  |false=>rw[u2k,u2k];exact ih
theorem g2x{l:List Term}(h:((l.length:Int) !=1)=false):ix l 0=some (hdT l)/\l=[hdT l]:=by
 have:l.length=1:=by simp at h;omega
 match l,this with
 |[x],_=>exact⟨rfl,rfl⟩
theorem d2y{s:Bt}{l:List Term}{b:Bool}(h:(((!(arN s).2) || b) || (decide ((arN s).1>=0)&& ((l.length:Int) !=(arN s).1)))=false)(h1:(arN s).1=1):ix l 0=some (hdT l)/\l=[hdT l]:=by
 rw[r2x,h1]at h;exact g2x h.2
theorem q1b(b:List Y21)(t:Term):∀(d:Int) (n:Nat),1<=d->d<=7->300<=n+d.toNat->o1l n (t,b,d,())=some (tchk b t d,()):=by
 induction t using w0u with
 |_ k v s a ih=>
  intro d n h1 h7 hn;obtain⟨m,rfl⟩:∃m,n=m+1:=⟨n - 1,by omega⟩;rw[o1l,tchk];unfold h1i;dsimp+instances only[v1a,u1a,m1a,z1d];cases hd:decide (d>6)with
  |true=>rfl
  |false=>
   have h6:=of_decide_eq_false hd;have hw:wI (d+1)=d+1:=a0f (by omega) (by omega);have hs:∀x∈a,o1l m (x,b,d+1,())=some (tchk b x (d+1),()):=λx hx=>ih x hx (d+1) m (by omega) (by omega) (by omega);rw[show(((((v.kind:Int)==0)&& ((v.n:Int)==0))&& (seq v.s zb0))&& (((v.l.length:Int):Int)==0))=zrB v from rfl]
   cases h1:k==1 with
   |true=>
    cases (!(seq s zb0)) || decide ((a.length:Int) >0)with
    |true=>rfl
    |false=>
     cases v.kind==4 with
     |true=>rfl
     |false=>
      simp only[u2j,u2k];rw[Val.eta,l0s v m (by omega),r2g]
   |false=>
    cases h2:k==2 with
    |true=>
     cases (!zrB v) || decide ((a.length:Int) >0)with
     |true=>rfl
     |false=>
      simp only[u2j,u2k];rw[w0y s m (by omega),r2g];cases !o0e s with
      |true=>rfl
      |false=>cases !f0a .str .bool b s<;>rfl
    |false=>
     cases h3:k==3 with
     |true=>
      cases hz:(!zrB v) || ((a.length:Int) !=1)with
      |true=>rfl
      |false=>
       rw[r2x]at hz;obtain⟨e1,e2⟩:=g2x hz.2;simp only[u2j,u2k];rw[e1,r2g];cases (hdT a).kind !=2 with
       |true=>rfl
       |false=>
        simp only[u2j,u2k];rw[h0v s m (by omega),r2g];cases !nmB s with
        |true=>rfl
        |false=>
         simp only[u2k];rw[r2g,Term.eta2,hw,hs (hdT a) (by rw[e2];simp[hdT]),r2g];have:l0d b a (d+1)=tchk b (hdT a) (d+1):=by
          conv=>lhs;rw[e2]
          rw[l0d,l0d];cases hc:tchk b (hdT a) (d+1) !=0 with
          |true=>rfl
          |false=>
           have h0:tchk b (hdT a) (d+1)=0:=by simpa using hc
           exact h0.symm
         rw[this]
     |false=>
      cases h4:k==4 with
      |false=>rfl
      |true=>
       simp only[u2j,u2k];rw[x1z,r2g];dsimp only;cases hz:((!(arN s).2) || !zrB v) || (decide ((arN s).1>=0)&& ((a.length:Int) !=(arN s).1))with
       |true=>rfl
       |false=>
        cases dM:decide ((a.length:Int) >30)with
        |true=>rfl
        |false=>
         have hl:=of_decide_eq_false dM;simp only[u2k];rw[m1l _ m _ _ a m _ _ _ (by omega) (by omega),s0z _ m b d hw _ _ _ a 0 hs];cases hc:l0d b a (d+1) !=0 with
         |true=>rfl
         |false=>
          simp only[u2k];dsimp+instances only[v1a,u1a,m1a,z1d];unfold lstB;cases hid:seq s zb5 with
          |true=>
           have har:(arN s).1=1:=by rw[(a0h _ _).1 hid];kernel_rfl
           obtain⟨e1,e2⟩:=d2y hz har;have kz:seq s zb6=false:=by rw[(a0h _ _).1 hid];kernel_rfl
           simp only[u2j];rw[e1,r2g,kz];cases (hdT a).kind !=2<;>rfl
          |false=>
           simp only[u2k];cases kz:seq s zb6 with
           |false=>rfl
           |true=>
            have har:(arN s).1=1:=by rw[(a0h _ _).1 kz];kernel_rfl
            obtain⟨e1,e2⟩:=d2y hz har;simp only[u2j];rw[e1,r2g];cases (hdT a).kind !=2 with
            |true=>rfl
            |false=>
             simp only[u2k];rw[r2g];cases !a0k .str .bool false b (hdT a).name<;>rfl
theorem b1w(b:List Y21)(t:Term)(n:Nat)(hn:300<=n):p1r n (t,b,())=some (tchk b t 1,()):=by
 unfold p1r;dsimp only;rw[Term.eta2,q1b b t 1 n (by omega) (by omega) (by omega)];rfl
theorem s0s:∀(n:Nat) (l:List UInt8),(∀b∈l,b.toNat<128)->Lib.validGoD n l=true
 | 0,l,_=>rfl
 |n+1,[],_=>rfl
 |n+1,b::r,h=>by
  have hb:=h b (by simp);have hd:Lib.decodeL (b::r)=(b.toNat,1):=by
   have h0:(⟨(b::r).toArray⟩:Bt).get! 0=b:=rfl;unfold Lib.decodeL Utf8.decode;simp only[s2u,h0];rw[if_pos (by omega)]
  have h3:¬((b.toNat,1).1=65533/\(b.toNat,1).2=1):=λh=>by
   have:=h.1;dsimp only at this;omega
  rw[Lib.validGoD,if_neg (List.cons_ne_nil b r),hd,if_neg h3];exact s0s n r λx hx=>h x (s2x _ hx)
theorem z0n:∀(l:List UInt8) (i:Int),nmF i (bi l)=true->∀b∈l,b.toNat<128
 |[],_,_=>λb hb=>by cases hb
 |c::r,i,h=>by
  rw[w0p,nmF]at h;intro b hb;cases hc:(!(lttI (c.toNat:Int))&& (((i==0) || (decide ((c.toNat:Int)<48))) || (decide ((c.toNat:Int) >57))))with
  |true=>rw[hc]at h;cases h
  |false=>
   rw[hc]at h;rcases r2s.1 hb with rfl|hb
   ·unfold lttI at hc
    simp only[Bool.and_eq_false_iff,Bool.not_eq_false',u2c,r2i,decide_eq_true_eq,r2x,decide_eq_false_iff_not,beq_iff_eq]at hc;omega
   ·exact z0n r (i+1) h b hb
theorem z1p{s:Bt}(h:nmB s=true):p0c s=true/\s.size<=12:=by
 unfold nmB at h;cases hc:(seq s zb0) || (decide ((s.size:Int) >12))with
 |true=>rw[hc]at h;cases h
 |false=>
  rw[hc]at h;rw[r2x]at hc;have mb:=of_decide_eq_false hc.2;exact⟨s0s _ _ (z0n _ _ h),by omega⟩
def stV(v:Val):Int:=bif v.kind==1 then(bif v.n==1 then 1 else 0)else 2
def ngS(c:Int):Int:=bif c==2 then 2 else bif c==1 then 0 else 1
def orS(a b:Int):Int:=bif (a==1) || (b==1)then 1 else bif (a==0)&& (b==0)then 0 else 2
theorem r0v{c:Int}:ngS c=0\/ngS c=1\/ngS c=2:=by
 unfold ngS;cases c==2<;>cases c==1<;>simp
theorem v0n{a b:Int}:orS a b=0\/orS a b=1\/orS a b=2:=by
 unfold orS;cases (a==1) || (b==1)<;>cases (a==0)&& (b==0)<;>simp
theorem u0l{c:Int}(h:c=0\/c=1\/c=2):stV (tV c)=c:=by
 rcases h with rfl|rfl|rfl<;>rfl
theorem b1z(b:Bool):r0d (b,())=some (tV (bif b then 1 else 0),()):=by cases b<;>rfl
theorem j0g(v:Val):i0g (v,())=some (tV (ngS (stV v)),()):=by
 unfold i0g c1k stV;dsimp+instances only[b0e,n_mk];cases v.kind==1<;>cases v.n==1<;>rfl
theorem s0q(v w:Val):t0k (v,w,())=some (tV (orS (stV v) (stV w)),()):=by
 unfold t0k c1k stV;dsimp+instances only[b0e,n_mk];cases v.kind==1<;>cases v.n==1<;>cases w.kind==1<;>cases w.n==1<;>rfl
theorem tV_r(c:Int)(h:c=0\/c=1\/c=2):Right (tV c) 1:=y1i c h 1
def inS(x:Val):Int->List Val->Int
 |c,[]=>c
 |c,y::r=>inS x (orS c (smV x y)) r
theorem u1n(x:Val):∀(l:List Val) (c:Int),(c=0\/c=1\/c=2)->inS x c l=0\/inS x c l=1\/inS x c l=2
 |[],c,h=>h
 |y::r,c,_=>u1n x r _ v0n
def coal:List Val->Val
 |[]=>zV
 |x::r=>bif x.kind !=0 then x else coal r
def arg0(l:List Val):Val:=l.headD zV
def arg1(l:List Val):Val:=(l.drop 1).headD zV
def r1i(g:Graph)(s:Bt)(l:List Val):Val:=
 bif (seq s zb1 || seq s zb2) || seq s zb3 then(bif chk (p0p s (arg0 l) (arg1 l)).1 1 !=0 then zV else(p0p s (arg0 l) (arg1 l)).1)
 else bif seq s zb15 then tV (smV (arg0 l) (arg1 l))
 else bif seq s zb16 then tV (lsV (arg0 l) (arg1 l))
 else bif seq s zb11 then tV (ngS (lsV (arg1 l) (arg0 l)))
 else bif seq s zb12 then tV (ngS (orS (ngS (stV (arg0 l))) (ngS (stV (arg1 l)))))
 else bif seq s zb13 then tV (orS (stV (arg0 l)) (stV (arg1 l)))
 else bif seq s zb7 then tV (ngS (stV (arg0 l)))
 else bif seq s zb4 then tV (bif (arg0 l).kind==0 then 1 else 0)
 else bif seq s zb18 then(bif (arg1 l).kind !=4 then zV else tV (inS (arg0 l) 0 (arg1 l).l))
 else bif seq s zb8 then(bif (arg0 l).kind==3 then nV ((b0b (arg0 l).s).length:Int)else bif (arg0 l).kind==4 then nV ((arg0 l).l.length:Int)else zV)
 else bif seq s zb9 then(bif (arg0 l).kind==4 then(arg0 l).l.headD zV else zV)
 else bif seq s zb10 then coal l
 else bif seq s zb19 then(bif chk (.mk 4 0 zb0 l) 1==0 then .mk 4 0 zb0 l else zV)
 else bif seq s zb5 then arg0 l
 else bif seq s zb6 then(match c1l g.edges (arg0 l).n with|some x=>.mk 3 0 x.type []| none=>zV)
 else zV
theorem zV_r:Right zV 1:=.null 1
theorem y1d(sg:Bt){a b:Val}(ha:Right a 1)(hb:Right b 1):vOk (p0p sg a b).1:=by
 have oa:=b0k ha;have ob:=b0k hb;have la:=f0l ha;have lb:=f0l hb;have hz:vOk zV:=b0k zV_r;have hn:∀z,vOk (gI z).1:=by
  intro z;unfold gI;cases h:inR z with
  |true=>exact b0k (Right.int z 1 h)
  |false=>exact hz
 unfold p0p;cases (seq sg zb1 || seq sg zb2) || seq sg zb3 with
 |false=>exact hz
 |true=>
  cases (a.kind==0) || (b.kind==0)with
  |true=>exact hz
  |false=>
   cases (a.kind==2)&& (b.kind==2)with
   |true=>exact hn _
   |false=>
    cases (seq sg zb1&& (a.kind==3))&& (b.kind==3)with
    |true=>
     cases decide (((a.s.size+b.s.size:Nat):Int) >4000)with
     |true=>exact hz
     |false=>
      simp only[u2j,u2k];rw[vOk,c0s];exact⟨by unfold wfI;decide,by unfold wfI;decide,by rw[ByteArray.size_append];unfold maxLen;omega,s2i _,λx hx=>by cases hx⟩
    |false=>
     cases (seq sg zb1&& (a.kind==4))&& (b.kind==4)with
     |true=>
      cases decide (((a.l.length+b.l.length:Nat):Int) >30)with
      |true=>exact hz
      |false=>
       simp only[u2j,u2k];rw[vOk,c0s];refine⟨by unfold wfI;decide,by unfold wfI;decide,s2i _,by rw[r2t];unfold maxLen;omega,λy hy=>?_⟩;rcases s2j.1 hy with hy|hy
       ·exact b0k (l0u ha y hy)
       ·exact b0k (l0u hb y hy)
     |false=>exact hz
theorem v0a(s:Bt):∀(n i:Nat),(p0k s n i).length<=n
 | 0,_=>by simp[p0k]
 |n+1,i=>by
  rw[p0k];split
  ·simpa using v0a s n _
  ·simp
theorem e1j(g:Graph)(s:Bt)(l:List Val)(hl:∀x∈l,Right x 1)(dM:l.length<=30)(hg:∀x∈g.edges,nmB x.type=true):Right (r1i g s l) 1:=by
 have h0:Right (arg0 l) 1:=by
  unfold arg0;cases l with
  |nil=>exact zV_r
  |cons x r=>exact hl x (by simp)
 have h1:Right (arg1 l) 1:=by
  unfold arg1
  match l,hl with
  |[],_=>exact zV_r
  |[_],_=>exact zV_r
  |_::y::_,hl=>exact hl y (by simp)
 unfold r1i;cases (seq s zb1 || seq s zb2) || seq s zb3 with
 |true=>
  simp only[u2j];cases hc:chk (p0p s (arg0 l) (arg1 l)).1 1 !=0 with
  |true=>exact zV_r
  |false=>exact p0y _ 1 (y1d s h0 h1) (by simpa using hc)
 |false=>
 cases seq s zb15 with
 |true=>exact tV_r _ (u1c _ _)
 |false=>
 cases seq s zb16 with
 |true=>exact tV_r _ (w1v _ _)
 |false=>
 cases seq s zb11 with
 |true=>exact tV_r _ r0v
 |false=>
 cases seq s zb12 with
 |true=>exact tV_r _ r0v
 |false=>
 cases seq s zb13 with
 |true=>exact tV_r _ v0n
 |false=>
 cases seq s zb7 with
 |true=>exact tV_r _ r0v
 |false=>
 cases seq s zb4 with
 |true=>exact tV_r _ (by cases (arg0 l).kind==0<;>simp)
 |false=>
 cases seq s zb18 with
 |true=>
  simp only[u2j,u2k];cases (arg1 l).kind !=4 with
  |true=>exact zV_r
  |false=>exact tV_r _ (u1n _ _ _ (.inl rfl))
 |false=>
 cases seq s zb8 with
 |true=>
  have l0:=f0l h0;have hr:(b0b (arg0 l).s).length<=4000:=t2p (v0a _ _ _) l0.2;have hn:∀k:Nat,k<=4000->Right (nV (k:Int)) 1:=λk hk=>.int _ 1 (by
   have h:inR (k:Int)=true:=by unfold inR;rw[r2i,decide_eq_true_eq,decide_eq_true_eq];omega
   exact h)
  simp only[u2j,u2k];cases (arg0 l).kind==3 with
  |true=>exact hn _ hr
  |false=>
   cases (arg0 l).kind==4 with
   |true=>exact hn _ (by omega)
   |false=>exact zV_r
 |false=>
 cases seq s zb9 with
 |true=>
  simp only[u2j,u2k];cases (arg0 l).kind==4 with
  |false=>exact zV_r
  |true=>
   have hs:=l0u h0;cases fp:(arg0 l).l with
   |nil=>exact zV_r
   |cons x r=>exact o1e (hs x (by rw[fp];simp)) 1 (by omega)
 |false=>
 cases seq s zb10 with
 |true=>
  simp only[u2j,u2k];clear h0 h1 dM
  induction l with
  |nil=>exact zV_r
  |cons x r ih=>
   rw[coal];cases x.kind !=0 with
   |true=>exact hl x (by simp)
   |false=>exact ih λy hy=>hl y (by simp[hy])
 |false=>
 cases seq s zb19 with
 |true=>
  simp only[u2j,u2k];cases hc:chk (.mk 4 0 zb0 l) 1==0 with
  |false=>exact zV_r
  |true=>
   simp only[u2j];refine p0y _ 1 ?_ (by simpa using hc);rw[vOk,c0s];exact⟨by unfold wfI;decide,by unfold wfI;decide,s2i _,by unfold maxLen;omega,λx hx=>b0k (hl x hx)⟩
 |false=>
 cases seq s zb5 with
 |true=>exact h0
 |false=>
 cases seq s zb6 with
 |true=>
  simp only[u2j,u2k];cases he:c1l g.edges (arg0 l).n with
  |none=>exact zV_r
  |some x=>
   have hm:=hg x (u0a he);have:=z1p hm;exact .text _ 1 (by omega) this.1
 |false=>exact zV_r
theorem ar2{l:List Val}(h:l.length=2):ix l 0=some (arg0 l)/\ix l 1=some (arg1 l)/\arg0 l∈l/\arg1 l∈l:=by
 match l,h with
 |[x,y],_=>exact⟨rfl,rfl,by simp[arg0],by simp[arg1]⟩
theorem ar1{l:List Val}(h:l.length=1):ix l 0=some (arg0 l)/\arg0 l∈l:=by
 match l,h with
 |[x],_=>exact⟨rfl,by simp[arg0]⟩
def ArOk(s:Bt)(k:Nat):Prop:=(arN s).2=true/\((arN s).1>=0->(k:Int)=(arN s).1)
theorem ArOk.two {s:Bt}{k:Nat}(h:ArOk s k)(h2:arN s=(2,true)):k=2:=by
 have:=h.2 (by rw[h2];decide);rw[h2]at this;simp at this;omega
theorem ArOk.one {s:Bt}{k:Nat}(h:ArOk s k)(h2:arN s=(1,true)):k=1:=by
 have:=h.2 (by rw[h2];decide);rw[h2]at this;simp at this;omega
theorem r1w{ρ:Type}(n:Nat)(kr:Unit->Option ρ)(k:List Val×Y6×Y6×Unit->Option ρ)(args:List Val)(x:Val)(h0:ix args 0=some x)(hx:vOk x)(hn:vSz x+7<=n)(o:Val):
  ∀(l:List Val) (i:Int) (c:Int),(c=0\/c=1\/c=2)->a0b (j0f n kr) k i l (args,(o,()),(tV c,()),())=k (args,(o,()),(tV (inS x c l),()),())
 |[],_,_,_=>rfl
 |y::r,i,c,hc=>by
  rw[a0b];have ih:=r1w n kr k args x h0 hx hn o r (i+1) (orS c (smV x y)) v0n;generalize a0b (j0f n kr) k (i+1) r=R at ih;unfold j0f;dsimp only;rw[h0,r2g];rw[Val.eta,Val.eta,Val.eta,Val.eta,j1a x y n hx hn,r2g];dsimp only;rw[Val.eta,s0q,r2g,u0l hc,u0l (u1c x y)];dsimp only;rw[Val.eta];exact ih
theorem z0s(n:Nat)(k:Y6×Unit->Option Y6)(o:Val)(hk:k ((o,()),())=some (zV,())):
  ∀(l:List Val) (i:Int),a0b (m0g n (λ(o81,_)=>some ((Val.mk o81.1.kind o81.1.n o81.1.s o81.1.l),()))) k i l ((o,()),())=some (coal l,())
 |[],_=>hk
 |y::r,i=>by
  rw[a0b];have ih:=z0s n k o hk r (i+1);generalize a0b (m0g n (λ(o81,_)=>some ((Val.mk o81.1.kind o81.1.n o81.1.s o81.1.l),()))) k (i+1) r=R at ih;unfold m0g;dsimp only;rw[coal];cases y.kind !=0 with
  |true=>
   simp only[u2j];rw[Val.eta,Val.eta]
  |false=>
   simp only[u2k];rw[Val.eta];exact ih
theorem f2r(g:Graph)(at_:List Y27)(t:Term)(l:List Val)(n:Nat)(hl:∀x∈l,Right x 1)(dM:l.length<=30)(har:ArOk t.name l.length)(hr:Rise Edg.id g.edges)(bQ:g.edges.length<=60)
  (hn:lSz l+1000<=n):q81z n (⟨g,at_⟩,t,l,())=some (r1i g t.name l,()):=by
 obtain⟨k0,v0,s,a0⟩:=t;rw[m1a]at har⊢;have sz:∀x∈l,vSz x+900<=n:=λx hx=>by have:=l0f hx;omega
 unfold q81z r1i;dsimp+instances only[m1a];have reck:arN s=(2,true)->((ix l 0).bind λx7=>(ix l 1).bind λx8=>(q88z n (s,(Val.mk x7.kind x7.n x7.s x7.l),(Val.mk x8.kind x8.n x8.s x8.l),())).bind λ(y9,y10,_)=>(j0k n ((Val.mk y9.kind y9.n y9.s y9.l),())).bind λ(qn,_)=>
   (bif (qn:Int) !=0 then some ((Val.mk 0 0 zb0 ([]:List Val)),())else some ((Val.mk y9.kind y9.n y9.s y9.l),())))=some (bif chk (p0p s (arg0 l) (arg1 l)).1 1 !=0 then zV else(p0p s (arg0 l) (arg1 l)).1,()):=by
  intro h2;obtain⟨e0,e1,m0,m1⟩:=ar2 (har.two h2);rw[e0,r2g,e1,r2g,Val.eta,Val.eta,a2g s (hl _ m0) (hl _ m1) n (by omega),r2g];dsimp only;rw[Val.eta,l0s _ n (by omega),r2g];dsimp only;cases chk (p0p s (arg0 l) (arg1 l)).1 1 !=0<;>rfl
 cases h1:seq s zb1 with
 |true=>
  simp only[u2j,t2d];exact reck (by rw[(a0h _ _).1 h1];kernel_rfl)
 |false=>
 cases h2:seq s zb2 with
 |true=>
  simp only[u2j,u2k,t2d,s2q];exact reck (by rw[(a0h _ _).1 h2];kernel_rfl)
 |false=>
 cases h3:seq s zb3 with
 |true=>
  simp only[u2j,u2k,t2d,s2q];exact reck (by rw[(a0h _ _).1 h3];kernel_rfl)
 |false=>
 simp only[u2k,s2q];cases h4:seq s zb15 with
 |true=>
  simp only[u2j];obtain⟨e0,e1,m0,m1⟩:=ar2 (har.two (by rw[(a0h _ _).1 h4];kernel_rfl));rw[e0,r2g,e1,r2g,Val.eta,Val.eta,j1a _ _ n (b0k (hl _ m0)) (by have:=sz _ m0;omega),r2g];dsimp only;rw[Val.eta]
 |false=>
 cases h5:seq s zb16 with
 |true=>
  simp only[u2j,u2k];obtain⟨e0,e1,m0,m1⟩:=ar2 (har.two (by rw[(a0h _ _).1 h5];kernel_rfl));rw[e0,r2g,e1,r2g,Val.eta,Val.eta,t1r _ _ n (b0k (hl _ m0)) (by have:=sz _ m0;omega),r2g];dsimp only;rw[Val.eta]
 |false=>
 cases h6:seq s zb11 with
 |true=>
  simp only[u2j,u2k];obtain⟨e0,e1,m0,m1⟩:=ar2 (har.two (by rw[(a0h _ _).1 h6];kernel_rfl));rw[e1,r2g,e0,r2g,Val.eta,Val.eta,t1r _ _ n (b0k (hl _ m1)) (by have:=sz _ m1;omega),r2g];dsimp only;rw[Val.eta,j0g,r2g,u0l (w1v _ _)];dsimp only;rw[Val.eta]
 |false=>
 cases h7:seq s zb12 with
 |true=>
  simp only[u2j,u2k];obtain⟨e0,e1,m0,m1⟩:=ar2 (har.two (by rw[(a0h _ _).1 h7];kernel_rfl));rw[e0,r2g,Val.eta,j0g,r2g,e1,r2g,Val.eta,j0g,r2g];dsimp only;rw[Val.eta,Val.eta,s0q,r2g,u0l r0v,u0l r0v];dsimp only;rw[Val.eta,j0g,r2g,u0l v0n];dsimp only;rw[Val.eta]
 |false=>
 cases h8:seq s zb13 with
 |true=>
  simp only[u2j,u2k];obtain⟨e0,e1,m0,m1⟩:=ar2 (har.two (by rw[(a0h _ _).1 h8];kernel_rfl));rw[e0,r2g,e1,r2g,Val.eta,Val.eta,s0q,r2g];dsimp only;rw[Val.eta]
 |false=>
 cases h9:seq s zb7 with
 |true=>
  simp only[u2j,u2k];obtain⟨e0,m0⟩:=ar1 (har.one (by rw[(a0h _ _).1 h9];kernel_rfl));rw[e0,r2g,Val.eta,j0g,r2g];dsimp only;rw[Val.eta]
 |false=>
 cases mY:seq s zb4 with
 |true=>
  simp only[u2j,u2k];obtain⟨e0,m0⟩:=ar1 (har.one (by rw[(a0h _ _).1 mY];kernel_rfl));rw[e0,r2g,b1z,r2g];dsimp only;rw[Val.eta]
 |false=>
 cases h11:seq s zb18 with
 |true=>
  simp only[u2j,u2k];obtain⟨e0,e1,m0,m1⟩:=ar2 (har.two (by rw[(a0h _ _).1 h11];kernel_rfl));have l1:=(f0l (hl _ m1)).1;rw[e1,r2g];cases (arg1 l).kind !=4 with
  |true=>rfl
  |false=>
   simp only[u2k];rw[b1z,r2g,r2g];dsimp only;rw[v1b n _ _ _ n _ _ _ (by omega) (by omega)];have:=r1w n (λ(_:Unit)=>(none:Option Y6)) (λ(v53,o57,o58,_)=>some ((Val.mk o58.1.kind o58.1.n o58.1.s o58.1.l),())) l (arg0 l) e0 (b0k (hl _ m0)) (by have:=sz _ m0;omega) (.mk 0 0 zb0 []) (arg1 l).l 0 0 (.inl rfl);refine this.trans ?_;dsimp only;rw[Val.eta]
 |false=>
 cases mb:seq s zb8 with
 |true=>
  simp only[u2j,u2k];obtain⟨e0,m0⟩:=ar1 (har.one (by rw[(a0h _ _).1 mb];kernel_rfl));rw[e0,r2g];cases (arg0 l).kind==3 with
  |true=>rfl
  |false=>cases (arg0 l).kind==4<;>rfl
 |false=>
 cases pG:seq s zb9 with
 |true=>
  simp only[u2j,u2k];obtain⟨e0,m0⟩:=ar1 (har.one (by rw[(a0h _ _).1 pG];kernel_rfl));rw[e0,r2g];cases (arg0 l).kind==4 with
  |false=>rfl
  |true=>
   simp only[u2j];rw[r2g];cases iN:(arg0 l).l with
   |nil=>rfl
   |cons x r=>
    have:decide (((x::r).length:Int) >0)=true:=by simp
    rw[this];simp only[u2j];rw[r2g,iN];show some (Val.mk x.kind x.n x.s x.l,())=some (x,());rw[Val.eta]
 |false=>
 cases h14:seq s zb10 with
 |true=>
  simp only[u2j,u2k];rw[u1f n _ _ l n _ (by omega) (by omega)];exact z0s n _ _ rfl l 0
 |false=>
 cases h15:seq s zb19 with
 |true=>
  simp only[u2j,u2k];rw[l0s _ n (by omega),r2g];dsimp only;cases chk (.mk 4 0 zb0 l) 1==0<;>rfl
 |false=>
 cases qb:seq s zb5 with
 |true=>
  simp only[u2j,u2k];obtain⟨e0,m0⟩:=ar1 (har.one (by rw[(a0h _ _).1 qb];kernel_rfl));rw[e0,r2g,Val.eta]
 |false=>
 cases pQ:seq s zb6 with
 |true=>
  simp only[u2j,u2k];obtain⟨e0,m0⟩:=ar1 (har.one (by rw[(a0h _ _).1 pQ];kernel_rfl));rw[e0,r2g];obtain⟨k,hk,hf⟩:=l1e g (arg0 l).n n hr bQ (by omega);rw[show(Graph.mk g.nodes g.edges g.next)=g from rfl,hk,r2g]
  dsimp only;rw[hf.ge];rcases hf with⟨_,gC⟩| ⟨_,x,hx,hs⟩
  ·rw[gC];rfl
  ·rw[hs,hx];rfl
 |false=>rfl
def fldV(g:Graph)(id:Int)(s:Bt):Val:=
 match c0c g.nodes id with
 |some x=>k0n x.props s
 |none=>match c1l g.edges id with
  |some x=>k0n x.props s
  |none=>zV
mutual
def tval(g:Graph)(at_:List Y27):Term->Val
 |.mk k v s a=>bif k==1 then v else bif k==2 then .mk 2 (a0k .str .i64 0 at_ s) zb0 []else bif k==3 then fldV g (a0k .str .i64 0 at_ (hdT a).name) s else r1i g s (t0g g at_ a)
def t0g(g:Graph)(at_:List Y27):List Term->List Val
 |[]=>[]
 |x::r=>tval g at_ x::t0g g at_ r
end
theorem q0r(g:Graph)(at_:List Y27):∀l:List Term,t0g g at_ l=l.map (tval g at_)
 |[]=>rfl
 |x::r=>by rw[t0g,q0r g at_ r];rfl
structure GOk(g:Graph):Prop where
 ok:gOk g
 cg:chkG g=0
theorem GOk.riseN {g:Graph}(h:GOk g):Rise Ev.Node.id g.nodes/\g.nodes.length<=40:=⟨(s0c (i0a h.cg).2.2.1).2.1,(i0a h.cg).1⟩
theorem GOk.riseE {g:Graph}(h:GOk g):Rise Edg.id g.edges/\g.edges.length<=60:=⟨(c1x (i0a h.cg).2.2.2).2.1,(i0a h.cg).2.1⟩
theorem b1n{nodes:List Ev.Node}:∀{l:List Edg} {last:Int},edgF nodes last l=0->∀x∈l,nmB x.type=true
 |[],_,_=>λx hx=>(by cases hx)
 |y::r,last,h=>by
  rw[edgF]at h;cases h1:decide (y.id<=last)with
  |true=>rw[h1]at h;cases h
  |false=>
  rw[h1,u2k]at h;cases h2:(c0c nodes y.id).isSome with
  |true=>rw[h2]at h;cases h
  |false=>
  rw[h2,u2k]at h;cases h3:nmB y.type with
  |false=>rw[h3]at h;cases h
  |true=>
  rw[h3,s2l,u2k]at h;cases h4:(c0c nodes y.src).isNone with
  |true=>rw[h4]at h;cases h
  |false=>
  rw[h4,u2k]at h;cases h5:(c0c nodes y.dst).isNone with
  |true=>rw[h5]at h;cases h
  |false=>
  rw[h5,u2k]at h;cases h6:prpE y.props !=0 with
  |true=>rw[h6,u2j]at h;rw[h]at h6;cases h6
  |false=>
  rw[h6,u2k]at h;intro x hx;rcases r2s.1 hx with rfl|hx
  ·exact h3
  ·exact b1n h x hx
theorem GOk.types {g:Graph}(h:GOk g):∀x∈g.edges,nmB x.type=true:=b1n (i0a h.cg).2.2.2
theorem GOk.propsN {g:Graph}(h:GOk g){x:Ev.Node}(hx:x∈g.nodes):x.props.length<=6/\(∀p∈x.props,chk p.val 1=0)/\ ∀p∈x.props,vOk p.val:=
 have h1:=d2d (k1x (i0a h.cg).2.2.1 x hx).2
 ⟨h1.1,h1.2,λp hp=>((h.ok.1.2 x hx).2.2.2 p hp).2⟩
theorem GOk.propsE {g:Graph}(h:GOk g){x:Edg}(hx:x∈g.edges):x.props.length<=6/\(∀p∈x.props,chk p.val 1=0)/\ ∀p∈x.props,vOk p.val:=
 have h1:=d2d (k1m (i0a h.cg).2.2.2 x hx).1
 ⟨h1.1,h1.2,λp hp=>((h.ok.2.1.2 x hx).2.2.2.2.2 p hp).2⟩
theorem o0p{l:List Prp}(h1:∀p∈l,chk p.val 1=0)(h2:∀p∈l,vOk p.val)(s:Bt):Right (k0n l s) 1:=by
 rcases u0r s l with h|⟨x,hx,h⟩
 ·rw[h];exact .null 1
 ·rw[h];exact p0y _ 1 (h2 x hx) (h1 x hx)
theorem i1t{g:Graph}(h:GOk g)(at_:List Y27)(i:Int)(s:Bt)(n:Nat)(hn:100<=n):q75z n (⟨g,at_⟩,i,s,())=some (fldV g i s,())/\Right (fldV g i s) 1:=by
 obtain⟨k,hk,hf⟩:=y0d g i n h.riseN.1 h.riseN.2 (by omega);obtain⟨k',aG,hf'⟩:=l1e g i n h.riseE.1 h.riseE.2 (by omega);unfold q75z fldV;dsimp only;rw[show(Graph.mk g.nodes g.edges g.next)=g from rfl,hk,r2g]
 dsimp only;rw[hf.ge];rcases hf with⟨_,gC⟩| ⟨_,x,hx,hs⟩
 ·rw[gC]
  simp only[Option.isSome_none,u2k];rw[aG,r2g];dsimp only;rw[hf'.ge];rcases hf' with⟨_,lp⟩| ⟨_,x,hx,hs⟩
  ·rw[lp];exact⟨rfl,.null 1⟩
  ·have hm:=u0a hs
   have hp:=h.propsE hm;rw[hs,hx];simp only[Option.isSome_some,u2j,r2g];rw[e2o x.props s n (by omega) hp.1 hp.2.1,r2g];dsimp only;rw[Val.eta];exact⟨rfl,o0p hp.2.1 hp.2.2 s⟩
 ·have hm:=l1x hs
  have hp:=h.propsN hm;rw[hs,hx];simp only[Option.isSome_some,u2j,r2g];rw[e2o x.props s n (by omega) hp.1 hp.2.1,r2g];dsimp only;rw[Val.eta];exact⟨rfl,o0p hp.2.1 hp.2.2 s⟩
def atOk(at_:List Y27):Prop:=∀p∈at_,wfI .i64 p.2
theorem i1l(s:Bt):∀{at_:List Y27},atOk at_->wfI .i64 (a0k .str .i64 0 at_ s)
 |[],_=>by show wfI .i64 0;unfold wfI;decide
 |p::r,h=>by
  rw[a0k];cases b0l .str s p.1 with
  |true=>exact h p (by simp)
  |false=>exact i1l s λq hq=>h q (by simp[hq])
theorem g2d{b:List Y21}{l:List Term}{d:Int}(h:l0d b l d=0):∀x∈l,tchk b x d=0:=by
 induction l with
 |nil=>intro x hx;cases hx
 |cons y r ih=>
  rw[l0d]at h;cases hc:tchk b y d !=0
  ·rw[hc]at h
   have fA:tchk b y d=0:=by simpa using hc
   intro x hx;rcases r2s.1 hx with rfl|hx
   ·exact fA
   ·exact ih h x hx
  ·rw[hc,u2j]at h
   rw[h]at hc;cases hc
inductive TR(b:List Y21):Term->Int->Prop
 |const (v:Val) (s:Bt) (a:List Term) (d:Int):d<=6->chk v 1=0->TR b (.mk 1 v s a) d
 |var (v:Val) (s:Bt) (a:List Term) (d:Int):d<=6->f0a .str .bool b s=true->TR b (.mk 2 v s a) d
 |field (v:Val) (s:Bt) (a:List Term) (d:Int):d<=6->ix a 0=some (hdT a)->a=[hdT a]->TR b (.mk 3 v s a) d
 |call (v:Val) (s:Bt) (a:List Term) (d:Int):d<=6->ArOk s a.length->a.length<=30->(∀x∈a,tchk b x (d+1)=0)->lstB b s (hdT a)=0->zrB v=true->TR b (.mk 4 v s a) d
theorem q2j{b:List Y21}{t:Term}{d:Int}(h:tchk b t d=0):TR b t d:=by
 obtain⟨k,v,s,a⟩:=t;rw[tchk]at h;cases hd:decide (d>6)with
 |true=>rw[hd]at h;cases h
 |false=>
 have h6:d<=6:=by have:=of_decide_eq_false hd;omega
 rw[hd,u2k]at h;cases h1:k==1 with
 |true=>
  have:k=1:=by simpa using h1
  subst this;rw[h1,u2j]at h;cases hz:(!(seq s zb0)) || decide ((a.length:Int) >0)with
  |true=>rw[hz]at h;cases h
  |false=>
   rw[hz,u2k]at h;cases h4:v.kind==4 with
   |true=>rw[h4]at h;cases h
   |false=>rw[h4]at h;exact .const v s a d h6 h
 |false=>
 rw[h1,u2k]at h;cases h2:k==2 with
 |true=>
  have:k=2:=by simpa using h2
  subst this;rw[h2,u2j]at h;cases hz:(!zrB v) || decide ((a.length:Int) >0)with
  |true=>rw[hz]at h;cases h
  |false=>
   rw[hz,u2k]at h;cases hn: !o0e s with
   |true=>rw[hn]at h;cases h
   |false=>
    rw[hn,u2k]at h;cases hm:f0a .str .bool b s with
    |false=>rw[hm]at h;cases h
    |true=>exact .var v s a d h6 hm
 |false=>
 rw[h2,u2k]at h;cases h3:k==3 with
 |true=>
  have:k=3:=by simpa using h3
  subst this;rw[h3,u2j]at h;cases hz:(!zrB v) || ((a.length:Int) !=1)with
  |true=>rw[hz]at h;cases h
  |false=>
   rw[r2x]at hz;obtain⟨e1,e2⟩:=g2x hz.2;exact .field v s a d h6 e1 e2
 |false=>
 rw[h3,u2k]at h;cases h4:k==4 with
 |false=>rw[h4]at h;cases h
 |true=>
  have:k=4:=by simpa using h4
  subst this;rw[h4,u2j]at h;cases hz:((!(arN s).2) || !zrB v) || (decide ((arN s).1>=0)&& ((a.length:Int) !=(arN s).1))with
  |true=>rw[hz]at h;cases h
  |false=>
   rw[hz,u2k]at h;cases dM:decide ((a.length:Int) >30)with
   |true=>rw[dM]at h;cases h
   |false=>
    have hl:=of_decide_eq_false dM;rw[dM,u2k]at h;cases hc:l0d b a (d+1) !=0 with
    |true=>rw[hc,u2j]at h;rw[h]at hc;cases hc
    |false=>
     rw[hc,u2k]at h;have fA:l0d b a (d+1)=0:=by simpa using hc
     rw[r2x,r2x]at hz;refine .call v s a d h6 ⟨by simpa using hz.1.1,λdT=>?_⟩ (by omega) (g2d fA) h (by simpa using hz.1.2);have h2:=hz.2;rw[decide_eq_true dT,t2k]at h2;simpa using h2
theorem m1t{α:Type}{p:Nat->α->Prop}:∀(l:List α),(∀x∈l,∃N,∀n,N<=n->p n x)-> ∃N,∀n,N<=n->∀x∈l,p n x
 |[],_=>⟨0,λ_ _ x hx=>by cases hx⟩
 |y::r,h=>by
  obtain⟨N1,h1⟩:=h y (by simp);obtain⟨N2,h2⟩:=m1t r λx hx=>h x (by simp[hx]);refine⟨N1+N2,λn hn x hx=>?_⟩;rcases r2s.1 hx with rfl|hx
  ·exact h1 n (by omega)
  ·exact h2 n (by omega) x hx
theorem c1e{ρ:Type}(self:Envr×Term×Unit->Option Y6)(n:Nat)(kr:Unit->Option ρ)(k:Y25×Y12×Y6×List Val×Unit->Option ρ)(e:Envr)(t:Term)(z:Val):
  ∀(l:List Term) (i:Int) (acc:List Val),(∀x∈l,self (e,x,())=some (tval e.g e.at_ x,()))->acc.length+l.length<=30->a0b (j0d self n kr) k i l ((e,()),(t,()),(z,()),acc,())=k ((e,()),(t,()),(z,()),acc++t0g e.g e.at_ l,())
 |[],i,acc,_,_=>by rw[t0g,s2a];rfl
 |x::r,i,acc,h,hl=>by
  rw[a0b];have ih:=c1e self n kr k e t z r (i+1) (acc++ [tval e.g e.at_ x]) (λy hy=>h y (by simp[hy])) (by simp at hl⊢;omega);generalize a0b (j0d self n kr) k (i+1) r=R at ih;unfold j0d;dsimp only;rw[Term.eta2,Term.eta2,show(Envr.mk (Graph.mk e.g.nodes e.g.edges e.g.next) e.at_)=e from rfl,h x (by simp),r2g]
  dsimp only;rw[Val.eta,Val.eta,b0v (j2u (by simp at hl⊢;omega) (by omega)),ih,t0g];simp
theorem z0e{g:Graph}(hg:GOk g){at_:List Y27}(ha:atOk at_)(b:List Y21)(t:Term):∀d,tOk t->tchk b t d=0->
  (∃N,∀n,N<=n->q74z n (⟨g,at_⟩,t,())=some (tval g at_ t,()))/\Right (tval g at_ t) 1:=by
 induction t using w0u with
 |_ k v s a ih=>
  intro d ht hc;rw[tOk,i1j]at ht;have hr:=q2j hc;cases hr with
  |const v s a d h6 hv=>
   have hR:=p0y v 1 ht.2.1 hv;refine⟨⟨101,λn hn=>?_⟩,by rw[tval];exact hR⟩;obtain⟨m,rfl⟩:∃m,n=m+1:=⟨n - 1,by omega⟩;rw[q74z,tval];unfold b1q;dsimp+instances only[v1a,u1a];rw[Val.eta,s0k v 1 m (by omega) (by omega) (by simp;omega) hv];simp only[r2g,beq_self_eq_true,u2j];rw[Val.eta]
  |var v s a d h6 hm=>
   refine⟨⟨101,λn hn=>?_⟩,by rw[tval];exact .int _ 1 (i1l s ha)⟩;obtain⟨m,rfl⟩:∃m,n=m+1:=⟨n - 1,by omega⟩;rw[q74z,tval];rfl
  |field v s a d h6 e1 e2=>
   refine⟨⟨201,λn hn=>?_⟩,by rw[tval];exact(i1t hg at_ _ s 100 (by omega)).2⟩;obtain⟨m,rfl⟩:∃m,n=m+1:=⟨n - 1,by omega⟩;rw[q74z,tval];unfold b1q;dsimp+instances only[v1a,u1a,m1a,z1d];rw[e1,r2g,show(Graph.mk g.nodes g.edges g.next)=g from rfl,(i1t hg at_ _ s m (by omega)).1,r2g]
   rw[show((3:Int)==1)=false from rfl,show((3:Int)==2)=false from rfl,show((3:Int)==3)=true from rfl]
   simp only[u2k,u2j];rw[Val.eta]
  |call v s a d h6 har dM hs _ _=>
   have bB:∀x∈a,(∃N,∀n,N<=n->q74z n (⟨g,at_⟩,x,())=some (tval g at_ x,()))/\Right (tval g at_ x) 1:=λx hx=>ih x hx (d+1) (ht.2.2.2.2 x hx) (hs x hx);have hR:∀y∈t0g g at_ a,Right y 1:=by
    rw[q0r];intro y hy;obtain⟨x,hx,rfl⟩:=s2c.1 hy;exact(bB x hx).2
   have hlen:(t0g g at_ a).length=a.length:=by rw[q0r,s2k]
   obtain⟨N,hN⟩:=m1t a λx hx=>(bB x hx).1;refine⟨⟨N+lSz (t0g g at_ a)+1001,λn hn=>?_⟩,by rw[tval];exact e1j g s _ hR (by omega) hg.types⟩;obtain⟨m,rfl⟩:∃m,n=m+1:=⟨n - 1,by omega⟩;rw[q74z,tval];unfold b1q;dsimp+instances only[v1a,u1a,m1a,z1d];rw[show((4:Int)==1)=false from rfl,show((4:Int)==2)=false from rfl,show((4:Int)==3)=false from rfl]
   simp only[u2k];rw[s1s _ m _ _ a m _ _ _ _ (by omega) (by omega)];have hlp:=c1e (q74z m) m (λ(_:Unit)=>(none:Option Y6)) (λ(o17,o18,o19,me,_)=>(q81z m ((Envr.mk (Graph.mk o17.1.g.nodes o17.1.g.edges o17.1.g.next) o17.1.at_),(Term.mk o18.1.kind (Val.mk o18.1.v.kind o18.1.v.n o18.1.v.s o18.1.v.l) o18.1.name o18.1.a),me,())).bind λ(y21,_)=>some ((Val.mk y21.kind y21.n y21.s y21.l),()))
    ⟨g,at_⟩ (.mk 4 v s a) (.mk 0 0 zb0 []) a 0 [] (λx hx=>hN m (by omega) x hx) (by simpa using dM)
   rw[Val.eta];refine hlp.trans ?_;dsimp only;rw[Term.eta2,s2m,f2r g at_ (.mk 4 v s a) _ m hR (by omega) (by rw[hlen];exact har) hg.riseE.1 hg.riseE.2 (by omega),r2g];dsimp only;rw[Val.eta];rfl
theorem c2d(q:Query):Query.mk q.dots q.arrows q.wher q.items q.dist=q:=rfl
def dtB(d:Ev.Dot):Bool:=(seq d.name zb0 || o0e d.name)&& (seq d.label zb0 || nmB d.label)
def arB(a:Ev.Arrow):Bool:=(seq a.name zb0 || (o0e a.name&& !a.many))&& (seq a.type zb0 || nmB a.type)
def nmD:List Ev.Dot->List Y21->List Y21
 |[],m=>m
 |d::r,m=>nmD r (bif !(seq d.name zb0)then b0d .str .bool m d.name false else m)
def nmA:List Ev.Arrow->List Y21->Option Y10
 |[],m=>some m
 |a::r,m=>bif seq a.name zb0 then nmA r m else bif f0a .str .bool m a.name then none else nmA r (b0d .str .bool m a.name true)
def whF(b:List Y21):List Term->Int
 |[]=>0
 |t::r=>bif tchk b t 1 !=0 then tchk b t 1 else whF b r
def aggs:List Bt:=[zb0,zb14,zb24,zb21,zb22]
def itF(b:List Y21):List Ev.Item->List Y21->Int
 |[],_=>0
 |i::r,seen=>bif !(o0e i.name)then 6 else bif !(hasL aggs i.agg)then 6 else bif a0k .str .bool false seen i.name then 7 else bif tchk b i.t 1 !=0 then tchk b i.t 1 else itF b r (b0d .str .bool seen i.name true)
def chkQ(q:Query):Int:=
 bif ((((decide (((q.dots.length:Int):Int)<1)) || (decide (((q.dots.length:Int):Int) >5))) || (decide (((q.items.length:Int):Int)<1))) || (decide (((q.items.length:Int):Int) >5))) || (decide (((q.wher.length:Int):Int) >1))then 2
 else bif ((q.arrows.length:Int):Int) !=(q.dots.length:Int) - 1 then 6
 else bif !(q.dots.all dtB)then 6 else bif !(q.arrows.all arB)then 6
 else match nmA q.arrows (nmD q.dots [])with
  |none=>7
  |some b=>bif whF b q.wher !=0 then whF b q.wher else itF b q.items []
theorem p2t{ρ:Type}(n:Nat)(hn:400<=n)(kr:Int×Unit->Option ρ)(K:(Y4×Unit)->Option ρ)(q:Query):
  ∀(l:List Ev.Dot) (i:Int),a0b (m0k n kr) K i l ((q,()),())=bif l.all dtB then K ((q,()),())else kr (6,())
 |[],i=>by rw[a0b];rfl
 |d::r,i=>by
  have ih:=p2t n hn kr K q r (i+1);rw[a0b,List.all_cons];unfold m0k at ih⊢;unfold dtB at ih⊢;dsimp only;rw[w0y d.name n (by omega),h0v d.label n (by omega)];simp only[r2g];cases seq d.name zb0<;>cases o0e d.name<;>cases seq d.label zb0<;>cases nmB d.label<;>simp only[s2l,t2m,u2j,u2k,t2d,s2q,t2k,u2i]<;>first|exact ih|rfl
theorem n2g{ρ:Type}(n:Nat)(hn:400<=n)(kr:Int×Unit->Option ρ)(K:(Y4×Unit)->Option ρ)(q:Query):
  ∀(l:List Ev.Arrow) (i:Int),a0b (m0i n kr) K i l ((q,()),())=bif l.all arB then K ((q,()),())else kr (6,())
 |[],i=>by rw[a0b];rfl
 |d::r,i=>by
  have ih:=n2g n hn kr K q r (i+1);rw[a0b,List.all_cons];unfold m0i at ih⊢;unfold arB at ih⊢;dsimp only;rw[w0y d.name n (by omega),h0v d.type n (by omega)];simp only[r2g];cases seq d.name zb0<;>cases o0e d.name<;>cases d.many<;>cases seq d.type zb0<;>cases nmB d.type<;>simp only[s2l,t2m,u2j,u2k,t2d,s2q,t2n,t2i,t2k,u2i,Bool.and_true,Bool.and_false]<;>first|exact ih|rfl
theorem m2g{ρ:Type}(n:Nat)(kr:Unit->Option ρ)(K:(Y4×Y10×Unit)->Option ρ)(q:Query):
  ∀(l:List Ev.Dot) (i:Int) (m:List Y21),a0b (s0x n kr) K i l ((q,()),m,())=K ((q,()),nmD l m,())
 |[],i,m=>by rw[a0b];rfl
 |d::r,i,m=>by
  have ih:=λm=>m2g n kr K q r (i+1) m;rw[a0b,nmD];unfold s0x at ih⊢;dsimp only;cases (!(seq d.name zb0))with
  |true=>rw[u2j,u2j];exact ih _
  |false=>rw[u2k,u2k];exact ih _
theorem n2n{ρ:Type}(n:Nat)(kr:Y10×Int×Unit->Option ρ)(K:(Y10×Unit)->Option ρ):
  ∀(l:List Ev.Arrow) (i:Int) (m:List Y21),a0b (m0o n kr) K i l (m,())=match nmA l m with|none=>kr ([],7,())| some b=>K (b,())
 |[],i,m=>by rw[a0b];rfl
 |a::r,i,m=>by
  have ih:=λm=>n2n n kr K r (i+1) m;rw[a0b,nmA];unfold m0o at ih⊢;dsimp only;cases (seq a.name zb0)with
  |true=>rw[u2j,u2j];exact ih _
  |false=>
   rw[u2k,u2k];cases f0a .str .bool m a.name with
   |true=>rfl
   |false=>rw[u2k,u2k];exact ih _
theorem i1a(q:Query)(n:Nat)(h1:q.dots.length<=100)(h2:q.arrows.length<=100)(hn:400<=n):q99z n (q,())=match nmA q.arrows (nmD q.dots [])with|none=>some ([],7,())| some b=>some (b,0,()):=by
 unfold q99z;dsimp only;rw[x1d n _ _ q.dots n _ _ (by omega) (by omega)];refine Eq.trans (m2g n _ _ q q.dots 0 []) ?_;dsimp only;rw[w1g n _ _ q.arrows n _ (by omega) (by omega)];exact n2n n _ _ q.arrows 0 _
theorem p2l{ρ:Type}(n:Nat)(hn:400<=n)(kr:Int×Unit->Option ρ)(K:(Y10×Y4×Unit)->Option ρ)(q:Query)(b:List Y21):
  ∀(l:List Term) (i:Int),a0b (m0q n kr) K i l (b,(q,()),())=bif whF b l !=0 then kr (whF b l,())else K (b,(q,()),())
 |[],i=>by rw[a0b];rfl
 |t::r,i=>by
  have ih:=p2l n hn kr K q b r (i+1);rw[a0b,whF];unfold m0q at ih⊢;dsimp only;rw[Term.eta2,b1w b t n (by omega),r2g];dsimp only;cases h:(tchk b t 1 !=0)with
  |true=>rw[u2j,u2j,h,u2j]
  |false=>rw[u2k,u2k];exact ih
theorem p2a{ρ:Type}(n:Nat)(hn:400<=n)(kr:Int×Unit->Option ρ)(K:(Y10×Y10×Unit)->Option ρ)(hK:∀b s s',K (b,s,())=K (b,s',()))(b:List Y21):
  ∀(l:List Ev.Item) (i:Int) (s:List Y21),a0b (m0a n kr) K i l (b,s,())=bif itF b l s !=0 then kr (itF b l s,())else K (b,s,())
 |[],i,s=>by rw[a0b];rfl
 |t::r,i,s=>by
  have ih:=p2a n hn kr K hK b r (i+1) (b0d .str .bool s t.name true);rw[a0b,itF];unfold m0a at ih⊢;dsimp only;rw[w0y t.name n (by omega),r2g];dsimp only;cases o0e t.name with
  |false=>rfl
  |true=>
   rw[s2l,u2k,u2k,x0d _ t.agg n (by simp) (by omega),r2g];dsimp only;unfold aggs;cases hasL [zb0,zb14,zb24,zb21,zb22] t.agg with
   |false=>rfl
   |true=>
    rw[s2l,u2k,u2k];cases a0k .str .bool false s t.name with
    |true=>rfl
    |false=>
     rw[u2k,u2k,Term.eta2,b1w b t.t n (by omega),r2g];dsimp only;cases h:(tchk b t.t 1 !=0)with
     |true=>rw[u2j,u2j,h,u2j]
     |false=>rw[u2k,u2k];exact ih.trans (by rw[hK b _ s])
theorem h0b(q:Query)(n:Nat)(hn:400<=n):q96z n (q,())=some (chkQ q,()):=by
 unfold q96z chkQ;dsimp only;cases hb:((((decide (((q.dots.length:Int):Int)<1)) || (decide (((q.dots.length:Int):Int) >5))) || (decide (((q.items.length:Int):Int)<1))) || (decide (((q.items.length:Int):Int) >5))) || (decide (((q.wher.length:Int):Int) >1))with
 |true=>rfl
 |false=>
  simp only[r2x,decide_eq_false_iff_not]at hb;rw[u2k,u2k,a0f (by omega) (by omega)];cases ha:((q.arrows.length:Int) !=(q.dots.length:Int) - 1)with
  |true=>rfl
  |false=>
   have ha:(q.arrows.length:Int)=(q.dots.length:Int) - 1:=by simpa[bne]using ha
   rw[u2k,u2k,q1p n _ _ q.dots n _ (by omega) (by omega)];refine Eq.trans (p2t n hn _ _ q q.dots 0) ?_;cases q.dots.all dtB with
   |false=>rfl
   |true=>
    rw[u2j,s2l,u2k];dsimp only;rw[p1f n _ _ q.arrows n _ (by omega) (by omega)];refine Eq.trans (n2g n hn _ _ q q.arrows 0) ?_;cases q.arrows.all arB with
    |false=>rfl
    |true=>
     rw[u2j,s2l,u2k];dsimp only
     first
      |rw[c2d,i1a q n (by omega) (by omega) hn]
      |rw[i1a q n (by omega) (by omega) hn]
     cases nmA q.arrows (nmD q.dots [])with
     |none=>rfl
     |some b=>
      dsimp only;rw[r2g];dsimp only;rw[show((0:Int) !=0)=false from rfl,u2k,t1i n _ _ q.wher n _ _ (by omega) (by omega)]
      refine Eq.trans (p2l n hn _ _ q b q.wher 0) ?_;cases hw:(whF b q.wher !=0)with
      |true=>rw[u2j,u2j]
      |false=>
       rw[u2k,u2k];dsimp only;rw[u1k n _ _ q.items n _ _ (by omega) (by omega)];refine Eq.trans (p2a n hn _ _ (λ_ _ _=>rfl) b q.items 0 []) ?_;cases hi:(itF b q.items [] !=0)with
       |true=>rfl
       |false=>
        have:itF b q.items []=0:=by simpa[bne]using hi
        rw[this];rfl
end Pure

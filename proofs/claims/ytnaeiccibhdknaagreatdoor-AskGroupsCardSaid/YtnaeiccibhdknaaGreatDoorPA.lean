import Derived.Test.YtnaeiccibhdknaaGreatDoorPCode
import Derived.KernelRfl
set_option linter.unusedSimpArgs false
set_option linter.unusedVariables false
noncomputable section
namespace Pure
open Esp Ev Go
theorem Val.eta (v:Val):Val.mk v.kind v.n v.s v.l=v:=by cases v;rfl
theorem b0e(k n:Int)(s:Bt)(l:List Val):(Val.mk k n s l).kind=k:=rfl
theorem n_mk(k n:Int)(s:Bt)(l:List Val):(Val.mk k n s l).n=n:=rfl
theorem s_mk(k n:Int)(s:Bt)(l:List Val):(Val.mk k n s l).s=s:=rfl
theorem l_mk(k n:Int)(s:Bt)(l:List Val):(Val.mk k n s l).l=l:=rfl
mutual
theorem f0v{p:Val->Prop}(h:∀k n s l,(∀x∈l,p x)->p (.mk k n s l)):∀v,p v
 |.mk k n s l=>h k n s l (i1y h l)
theorem i1y{p:Val->Prop}(h:∀k n s l,(∀x∈l,p x)->p (.mk k n s l)):∀l:List Val,∀x∈l,p x
 |[]=>λ_ hx=>by cases hx
 |y::r=>List.forall_mem_cons.2 ⟨f0v h y,i1y h r⟩
end
theorem a0g(a b:Bt):seq a b=true↔a=b:=by
 unfold seq;constructor
 ·intro h
  have h2:=eq_of_beq h;rw[ByteArray.toList_eq,ByteArray.toList_eq]at h2;cases a;cases b;congr 1;exact Array.toList_inj.1 h2
 ·rintro rfl
  exact beq_self_eq_true _
theorem b0f(a:Bt):seq a a=true:=(a0g a a).2 rfl
def fin6(b:Bool):Int:=bif b then 0 else 6
mutual
def chk:Val->Int->Int
 |.mk k n s l,d=>
  bif k==0 then fin6 (((n==0)&&seq s zb0)&& ((l.length:Int)==0))
  else bif k==1 then fin6 ((((n==0) || (n==1))&&seq s zb0)&& ((l.length:Int)==0))
  else bif k==2 then fin6 (seq s zb0&& ((l.length:Int)==0))
  else bif k==3 then(bif decide ((s.size:Int) >4000)then 2 else bif n==0 then fin6 (o0u s&& ((l.length:Int)==0))else 6)
  else bif k==4 then(bif decide ((l.length:Int) >30) || decide (d>6)then 2 else bif chks l (d+1) !=0 then chks l (d+1)else fin6 ((n==0)&&seq s zb0))
  else 6
def chks:List Val->Int->Int
 |[],_=>0
 |x::r,d=>bif chk x d !=0 then chk x d else chks r d
end
theorem g1e{s:Bt}(h:(s.size:Int)<=4000):a1k (s,())=some (o0u s,()):=by
 unfold a1k;show(bif Nat.ble s.size 9223372036854775807 then some (o0u s,())else none)=_
 rw[r2n (by omega)];rfl
theorem n1e{ρ:Type}(self:Val×Int×Unit->Option Y5)(n:Nat)(l:List Val)(d:Int)(hd:wI (d+1)=d+1)(hs:∀x∈l,self (x,d+1,())=some (chk x (d+1),()))(hl:l.length<=30)(o:Val)
  (kx:Y6×Unit->Option ρ)(kr:Int×Unit->Option ρ):
  ∀(r p:List Val),l=p++r->∀fuel,r.length<fuel->a0a (λrc=>m0g self n rc kx kr) fuel (d,l,(l.length:Int),(p.length:Int),(o,()),())=bif chks r (d+1) !=0 then kr (chks r (d+1),())else kx ((o,()),()):=by
 intro r
 induction r with
 |nil=>
  intro p hp fuel hf;obtain⟨m,rfl⟩:∃m,fuel=m+1:=⟨fuel - 1,by omega⟩;have e:decide ((p.length:Int)<(l.length:Int))=false:=by rw[decide_eq_false_iff_not];subst hp;simp
  simp only[a0a,m0g,Val.eta,e,u2b,chks];rfl
 |cons x r ih=>
  intro p hp fuel hf;obtain⟨m,rfl⟩:∃m,fuel=m+1:=⟨fuel - 1,by omega⟩;have hlen:l.length=p.length+(r.length+1):=by rw[hp];simp
  have e:decide ((p.length:Int)<(l.length:Int))=true:=by rw[decide_eq_true_iff];omega
  have e2:ix l (p.length:Int)=some x:=a0r (by rw[hp];simp);have e3:wI ((p.length:Int)+1)=((p++ [x]).length:Int):=by rw[a0f (by omega) (by omega)];simp
  have e4:=hs x (by rw[hp];simp);have e5:=ih (p++ [x]) (by simp[hp]) m (by simp at hf;omega);rw[a0a];simp only[m0g,Val.eta,e,e2,e3,hd,e4,u2a,q2u,e5];rw[chks];cases hc:chk x (d+1) !=0<;>simp[hc]
theorem a2r(v:Val):∀(d:Int) (n:Nat),1<=d->d<=7->40<=n+d.toNat->l1v n (v,d,())=some (chk v d,()):=by
 induction v using f0v with
 |_ k a s l ih=>
  intro d n h1 h2 h3;obtain⟨m,rfl⟩:∃m,n=m+1:=⟨n - 1,by omega⟩;simp only[l1v,h1i,chk,Val.eta];dsimp+instances only[b0e,n_mk,s_mk,l_mk];cases k==0
  ·cases k==1
   ·cases k==2
    ·cases k==3
     ·cases k==4
      ·rfl
      ·simp only[u2b,u2a]
       cases hb:decide ((l.length:Int) >30) || decide (d>6)
       ·have hb2:=r2o.1 hb
        have dP:=of_decide_eq_false hb2.1;have h6:=of_decide_eq_false hb2.2;have hw:wI (d+1)=d+1:=a0f (by omega) (by omega);simp only[u2b,Val.eta];have:=n1e (ρ:=Int×Unit) (l1v m) m l d hw (λx hx=>ih x hx (d+1) m (by omega) (by omega) (by omega)) (by omega) (.mk k a s l)
         (λ(o11,_)=>(bif !(((o11.1.n:Int)==0)&& (seq o11.1.s zb0))then some (6,())else some (0,()))) (λx=>some ((x.1:Int),())) l [] rfl m (by omega)
        refine this.trans ?_;cases chks l (d+1) !=0
        ·simp only[u2b,b0e,n_mk,s_mk,l_mk]
         cases (a==0)&&seq s zb0<;>rfl
        ·rfl
       ·rfl
     ·simp only[u2b,u2a]
      cases hb:decide ((s.size:Int) >4000)
      ·have:=of_decide_eq_false hb
       simp only[u2b];cases a==0
       ·rfl
       ·simp only[u2a,g1e (s:=s) (by omega),q2u]
        cases o0u s&& ((l.length:Int)==0)<;>rfl
      ·rfl
    ·simp only[u2b,u2a]
     cases seq s zb0&& ((l.length:Int)==0)<;>rfl
   ·simp only[u2b,u2a]
    cases ((a==0) || (a==1))&&seq s zb0&& ((l.length:Int)==0)<;>rfl
  ·simp only[u2a]
   cases (a==0)&&seq s zb0&& ((l.length:Int)==0)<;>rfl
theorem q0h(v:Val)(n:Nat)(h:40<=n):k0v n (v,())=some (chk v 1,()):=by
 simp only[k0v,Val.eta,a2r v 1 n (by omega) (by omega) (by omega),q2u]
inductive Right:Val->Int->Prop
 |null (d:Int):Right (.mk 0 0 zb0 []) d
 |truth (n:Int) (d:Int):n=0\/n=1->Right (.mk 1 n zb0 []) d
 |int (n:Int) (d:Int):wfI .i64 n->Right (.mk 2 n zb0 []) d
 |text (s:Bt) (d:Int):s.size<=4000->o0u s=true->Right (.mk 3 0 s []) d
 |list (l:List Val) (d:Int):l.length<=30->d<=6->(∀x∈l,Right x (d+1))->Right (.mk 4 0 zb0 l) d
theorem u0t{b:Bool}(h:fin6 b=0):b=true:=by cases b<;>first|rfl|(unfold fin6 at h;simp at h)
theorem w1m{l:List Val}{d:Int}(h:chks l d=0):∀x∈l,chk x d=0:=by
 induction l with
 |nil=>intro x hx;cases hx
 |cons y r ih=>
  rw[chks]at h;cases hc:chk y d !=0
  ·rw[hc]at h
   have fw:chk y d=0:=by simpa using hc
   intro x hx;rcases r2g.1 hx with rfl|hx
   ·exact fw
   ·exact ih h x hx
  ·rw[hc]at h
   have h0:chk y d=0:=h;simp[h0]at hc
theorem p0x(v:Val):∀d,vOk v->chk v d=0->Right v d:=by
 induction v using f0v with
 |_ k a s l ih=>
  intro d hv h;rw[vOk,c0u]at hv;have hlen:∀{x:Bool},(x&& ((l.length:Int)==0))=true->x=true/\l=[]:=λh=>by
   rw[q2w]at h;exact⟨h.1,by have:=h.2;simpa using this⟩
  rw[chk]at h;cases h0:k==0
  ·rw[h0]at h
   cases h1:k==1
   ·rw[h1]at h
    cases h2:k==2
    ·rw[h2]at h
     cases h3:k==3
     ·rw[h3]at h
      cases h4:k==4
      ·rw[h4]at h;cases h
      ·rw[h4]at h
       have hk:k=4:=by simpa using h4
       subst hk;simp only[u2b,u2a]at h;cases hb:decide ((l.length:Int) >30) || decide (d>6)
       ·rw[hb]at h
        have hb2:=r2o.1 hb;have dP:=of_decide_eq_false hb2.1;have h6:=of_decide_eq_false hb2.2;simp only[u2b]at h;cases hc:chks l (d+1) !=0
        ·rw[hc]at h
         have fw:chks l (d+1)=0:=by simpa using hc
         have h7:=u0t h;rw[q2w,a0g]at h7;obtain⟨h8,rfl⟩:=h7;have:a=0:=by simpa using h8
         subst this;exact .list l d (by omega) (by omega) λx hx=>ih x hx (d+1) (hv.2.2.2.2 x hx) (w1m fw x hx)
        ·rw[hc]at h
         have h0:chks l (d+1)=0:=h;simp[h0]at hc
       ·rw[hb]at h;cases h
     ·rw[h3]at h
      have hk:k=3:=by simpa using h3
      subst hk;simp only[u2b,u2a]at h;cases hb:decide ((s.size:Int) >4000)
      ·rw[hb]at h
       have bW:=of_decide_eq_false hb;simp only[u2b]at h;cases ha:a==0
       ·rw[ha]at h;cases h
       ·rw[ha]at h
        obtain⟨h5,rfl⟩:=hlen (u0t h);have:a=0:=by simpa using ha
        subst this;exact .text s d (by omega) h5
      ·rw[hb]at h;cases h
    ·rw[h2]at h
     have hk:k=2:=by simpa using h2
     subst hk;obtain⟨h5,rfl⟩:=hlen (u0t h);obtain rfl:=(a0g _ _).1 h5;exact .int a d hv.2.1
   ·rw[h1]at h
    have hk:k=1:=by simpa using h1
    subst hk;obtain⟨h5,rfl⟩:=hlen (u0t h);rw[q2w,a0g]at h5;obtain⟨h6,rfl⟩:=h5;exact .truth a d (by simpa using h6)
  ·rw[h0]at h
   have hk:k=0:=by simpa using h0
   subst hk;obtain⟨h5,rfl⟩:=hlen (u0t h);rw[q2w,a0g]at h5;obtain⟨h6,rfl⟩:=h5;have:a=0:=by simpa using h6
   subst this;exact .null d
def lttI(c:Int):Bool:=(((decide (c>=97))&& (decide (c<=122))) || ((decide (c>=65))&& (decide (c<=90)))) || (c==95)
def nmF:Int->List Int->Bool
 |_,[]=>true
 |i,c::r=>bif !(lttI c)&& (((i==0) || (decide (c<48))) || (decide (c>57)))then false else nmF (i+1) r
def nmB(s:Bt):Bool:=bif (seq s zb0) || (decide ((s.size:Int) >12))then false else nmF 0 (bi s.data.toList)
theorem v1d:∀(l:List Int) (i:Int),a0b (λi c (s:Unit) (rec:Unit->Option Y11)=>bif !(lttI c)&& (((i==0) || (decide (c<48))) || (decide (c>57)))then some (false,())else rec s) (λ_=>some (true,())) i l ()=some (nmF i l,())
 |[],i=>rfl
 |c::r,i=>by
  rw[a0b,nmF];cases !(lttI c)&& (((i==0) || (decide (c<48))) || (decide (c>57)))
  ·simp only[u2b];exact v1d r (i+1)
  ·rfl
theorem i0b(s:Bt)(n:Nat)(hn:20<=n):i0w n (s,())=some (nmB s,()):=by
 unfold i0w nmB;dsimp only;cases hb:(seq s zb0) || (decide ((s.size:Int) >12))with
 |true=>rfl
 |false=>
  have mV:=of_decide_eq_false (r2o.1 hb).2;rw[u2b,u2b];exact(u1u s (λi (_:Unit)=>(s,(s.size:Int),i,())) _ (λi c s rec=>bif !(lttI c)&& (((i==0) || (decide (c<48))) || (decide (c>57)))then some (false,())else rec s) (λ_=>some (true,()))
   (λrec i s=>rfl) (by omega) n () (by omega)).trans (v1d _ 0)
theorem o2q(a b:UInt8):(decide (a<b))=decide (a.toNat<b.toNat):=by
 by_cases h:a<b
 ·rw[decide_eq_true h,decide_eq_true (UInt8.lt_iff_toNat_lt.1 h)]
 ·rw[decide_eq_false h,decide_eq_false λh2=>h (UInt8.lt_iff_toNat_lt.2 h2)]
theorem n2e(a b:UInt8):(a==b)=decide (a.toNat=b.toNat):=by
 by_cases h:a=b
 ·subst h;simp
 ·have:¬a.toNat=b.toNat:=λh2=>h (UInt8.toNat_inj.1 h2)
  simp[h,this]
theorem u0l:∀x y:List UInt8,(!(Op.bytesLess y x))=(Op.bytesLess x y || x==y)
 |[],[]=>rfl
 |[],b::y=>rfl
 |a::x,[]=>rfl
 |a::x,b::y=>by
  have ih:=u0l x y;rw[Op.bytesLess,Op.bytesLess,List.cons_beq_cons,o2q,o2q,n2e,n2e];rcases Nat.lt_trichotomy a.toNat b.toNat with h|h|h
  ·simp[h,show ¬b.toNat<a.toNat by omega,show ¬b.toNat=a.toNat by omega]
  ·simp only[h,Nat.lt_irrefl,decide_false,s2e,decide_true,s2x]
   exact ih
  ·simp[h,show ¬a.toNat<b.toNat by omega,show ¬a.toNat=b.toNat by omega]
theorem c0z(x y:Bt):(!(e0w y x))=(e0w x y || seq x y):=u0l _ _
theorem z0g(x:Bt):e0w x zb0=false:=by
 unfold e0w;have:zb0.toList=[]:=by rw[ByteArray.toList_eq]
 rw[this];cases x.toList<;>rfl
theorem m2t{x:Bt}(h:nmB x=true):seq x zb0=false:=by
 cases hs:seq x zb0 with
 |false=>rfl
 |true=>unfold nmB at h;rw[hs]at h;cases h
def labF:Bt->List Bt->Int
 |_,[]=>0
 |prev,x::r=>bif (!(nmB x)) || (e0w x prev || seq x prev)then 6 else labF x r
def labE(l:List Bt):Int:=bif decide ((l.length:Int) >4)then 2 else labF zb0 l
def w1e(p:List Bt):Bt:=p.getLastD zb0
theorem o0h(p:List Bt)(x:Bt):w1e (p++ [x])=x:=by unfold w1e;simp
theorem u0v{α:Type}(p:List α):p=[]\/ ∃q y,p=q++ [y]:=by
 rcases List.eq_nil_or_concat p with h|⟨q,y,h⟩
 ·exact .inl h
 ·exact .inr ⟨q,y,by simpa using h⟩
theorem h1z(l:List Bt)(n:Nat)(hn:20<=n)(hl:l.length<=1000):∀(r p:List Bt),l=p++r->a0b (λ(i:Int) x (s:Unit) (rec:Unit->Option Y5)=>(i0w n (x,())).bind λy=>bif !y.1 then some (6,())else
  bif decide (i>0)then(ix l (wI (i - 1))).bind λz=>bif !(e0w z x)then some (6,())else rec s else rec s) (λ_=>some (0,())) (p.length:Int) r ()=some (labF (w1e p) r,())
 |[],_,_=>rfl
 |x::r,p,hp=>by
  have ih:=h1z l n hn hl r (p++ [x]) (by simp[hp]);rw[o0h]at ih;have e1:((p.length:Int)+1)=((p++ [x]).length:Int):=by simp
  rw[a0b,labF,i0b x n hn,q2u,e1,ih];dsimp only;cases gV:nmB x with
  |false=>rfl
  |true=>
   simp only[s2i,u2b,s2e];rcases u0v p with rfl|⟨q,y,rfl⟩
   ·rw[show decide (((([]:List Bt).length:Nat):Int) >0)=false from rfl,u2b]
    rw[show w1e []=zb0 from rfl,z0g,m2t gV]
    rfl
   ·have hq:l=q++y::(x::r):=by rw[hp];simp
    have e2:decide ((((q++ [y]).length:Nat):Int) >0)=true:=by simp
    have e3:wI (((q++ [y]).length:Int) - 1)=(q.length:Int):=by
     have:(q++ [y]).length=q.length+1:=by simp
     have h2:l.length=q.length+(r.length+2):=by rw[hq];simp
     rw[a0f (by omega) (by omega)];omega
    have e4:ix l (q.length:Int)=some y:=a0r (by rw[hq];simp);rw[e2,e3,e4,u2a,q2u,o0h,c0z];cases e0w x y || seq x y<;>rfl
theorem o1i(l:List Bt)(n:Nat)(hn:20<=n):q84z n (l,())=some (labE l,()):=by
 unfold q84z labE;dsimp only;cases hb:decide ((l.length:Int) >4)with
 |true=>rfl
 |false=>
  have h4:=of_decide_eq_false hb;rw[u2b,u2b];exact(d0h l (λi (s:Unit)=>(l,l,(l.length:Int),i,())) _ (λ(i:Int) x (s:Unit) (rec:Unit->Option Y5)=>(i0w n (x,())).bind λy=>bif !y.1 then some (6,())else
   bif decide (i>0)then(ix l (wI (i - 1))).bind λz=>bif !(e0w z x)then some (6,())else rec s else rec s) (λ_=>some (0,()))
   (λrec i s=>rfl) (by omega) n _ (by omega)).trans (h1z l n hn (by omega) l [] rfl)
def prpF:Bt->List Prp->Int
 |_,[]=>0
 |prev,x::r=>bif ((!(nmB x.name)) || (e0w x.name prev || seq x.name prev)) || (x.val.kind==0)then 6 else bif chk x.val 1 !=0 then chk x.val 1 else prpF x.name r
def prpE(l:List Prp):Int:=bif decide ((l.length:Int) >6)then 2 else prpF zb0 l
def y1a(p:List Prp):Bt:=w1e (p.map Prp.name)
theorem u0a(p:List Prp)(x:Prp):y1a (p++ [x])=x.name:=by unfold y1a;rw[List.map_append];exact o0h _ _
def prpB(n:Nat)(l:List Prp):Int->Prp->Unit->(Unit->Option Y5)->Option Y5:=λi x s rec=>(i0w n (x.name,())).bind λy=>bif !y.1 then some (6,())else
  bif decide (i>0)then(ix l (wI (i - 1))).bind λz=>bif (!(e0w z.name x.name)) || ((x.val.kind:Int)==0)then some (6,())else
   (k0v n ((Val.mk x.val.kind x.val.n x.val.s x.val.l),())).bind λy=>bif (y.1:Int) !=0 then some (y.1,())else rec s
  else bif (x.val.kind:Int)==0 then some (6,())else
   (k0v n ((Val.mk x.val.kind x.val.n x.val.s x.val.l),())).bind λy=>bif (y.1:Int) !=0 then some (y.1,())else rec s
theorem j1g(l:List Prp)(n:Nat)(hn:40<=n)(hl:l.length<=1000):∀(r p:List Prp),l=p++r->a0b (prpB n l) (λ_=>some (0,())) (p.length:Int) r ()=some (prpF (y1a p) r,())
 |[],_,_=>rfl
 |x::r,p,hp=>by
  have ih:=j1g l n hn hl r (p++ [x]) (by simp[hp]);rw[u0a]at ih;have e1:((p.length:Int)+1)=((p++ [x]).length:Int):=by simp
  rw[a0b,prpF,prpB,i0b x.name n (by omega),q2u,Val.eta,q0h x.val n hn,q2u,e1,ih];dsimp only;cases gV:nmB x.name with
  |false=>rfl
  |true=>
   simp only[s2i,u2b,s2e];rcases u0v p with rfl|⟨q,y,rfl⟩
   ·rw[show decide (((([]:List Prp).length:Nat):Int) >0)=false from rfl,u2b]
    rw[show y1a []=zb0 from rfl,z0g,m2t gV]
    simp only[s2e];cases x.val.kind==0
    ·simp only[u2b];cases chk x.val 1 !=0<;>rfl
    ·rfl
   ·have hq:l=q++y::(x::r):=by rw[hp];simp
    have e2:decide ((((q++ [y]).length:Nat):Int) >0)=true:=by simp
    have e3:wI (((q++ [y]).length:Int) - 1)=(q.length:Int):=by
     have:(q++ [y]).length=q.length+1:=by simp
     have h2:l.length=q.length+(r.length+2):=by rw[hq];simp
     rw[a0f (by omega) (by omega)];omega
    have e4:ix l (q.length:Int)=some y:=a0r (by rw[hq];simp);rw[e2,e3,e4,u2a,q2u,u0a,c0z];cases (e0w x.name y.name || seq x.name y.name) || (x.val.kind==0)
    ·simp only[u2b];cases chk x.val 1 !=0<;>rfl
    ·rfl
theorem i1w(l:List Prp)(n:Nat)(hn:40<=n):q91z n (l,())=some (prpE l,()):=by
 unfold q91z prpE;dsimp only;cases hb:decide ((l.length:Int) >6)with
 |true=>rfl
 |false=>
  have h4:=of_decide_eq_false hb;rw[u2b,u2b];exact(d0h l (λi (s:Unit)=>(l,l,(l.length:Int),i,())) _ (prpB n l) (λ_=>some (0,())) (λrec i s=>rfl) (by omega) n _ (by omega)).trans (j1g l n hn (by omega) l [] rfl)
theorem half{i j:Int}(h0:0<=i)(h1:0<=j)(h2:i+j<=4611686018427387904):wI (bshr .u64 (IntKind.wrap .u64 (wI (i+j))) 1)=(i+j) / 2:=by
 rw[a0f (x:=i+j) (by omega) (by omega),n0z (x:=i+j) (by omega) (by omega)];have:bshr .u64 (i+j) 1=(i+j) / 2:=by
  unfold bshr;rw[show(2:Int) ^ (min (1:Int).toNat IntKind.u64.bits)=2 from rfl,Int.fdiv_eq_ediv_of_nonneg _ (by omega)]
 rw[this,a0f (by omega) (by omega)]
def cmpI(a b:Int):Int:=bif decide (a<b)then -1 else bif decide (a>b)then 1 else 0
theorem k0e(a b:Int):q64z (a,b,())=some (cmpI a b,()):=by
 unfold q64z q77z cmpI;have:∀x:Int,(x !=x)=false:=λx=>by simp
 simp only[q2u,this,u2b];cases decide (a<b)<;>cases decide (a>b)<;>rfl
theorem c2g(a b:Int):decide (cmpI a b<0)=decide (a<b):=by
 unfold cmpI;by_cases h:a<b
 ·simp[h]
 ·by_cases h2:a>b<;>simp[h,h2]
theorem z0m(a b:Int):(cmpI a b==0)=decide (a=b):=by
 unfold cmpI;by_cases h:a<b
 ·simp[h];omega
 ·by_cases h2:a>b
  ·simp[h,h2];omega
  ·simp[h,h2];omega
def Rise{α:Type}(idf:α->Int)(l:List α):Prop:=l.Pairwise λx y=>idf x<idf y
theorem k1l{α τ ρ:Type}(l:List α)(idf:α->Int)(t:Int)(cmpf:α->Option Y5)(hc:∀x,cmpf x=some (cmpI (idf x) t,()))(enc:Int->Int->τ)(step:(τ->Option ρ)->τ->Option ρ)(kx:Int->Option ρ)
  (h:∀rec i j,step rec (enc i j)=bif decide (i<j)then(ix l (wI (bshr .u64 (IntKind.wrap .u64 (wI (i+j))) 1))).bind λx=>(cmpf x).bind λy=>bif decide (y.1<0)then rec (enc (wI ((wI (bshr .u64 (IntKind.wrap .u64 (wI (i+j))) 1))+1)) j)else rec (enc i (wI (bshr .u64 (IntKind.wrap .u64 (wI (i+j))) 1)))else kx i)
  (hr:Rise idf l)(hl:l.length<=1000000):
  ∀(fuel:Nat) (i j:Nat),i<=j->j<=l.length->j - i<fuel->(∀(q:Nat) x,l[q]?=some x->q<i->idf x<t)->(∀(q:Nat) x,l[q]?=some x->j<=q->t<=idf x)->
   ∃k:Nat,a0a step fuel (enc i j)=kx k/\k<=l.length/\(∀(q:Nat) x,l[q]?=some x->q<k->idf x<t)/\(∀(q:Nat) x,l[q]?=some x->k<=q->t<=idf x):=by
 intro fuel
 induction fuel with
 |zero=>intro i j _ _ hf;omega
 |succ m ih=>
  intro i j gi hj hf h1 h2;rw[a0a,h];by_cases aJ:i<j
  ·have e:decide ((i:Int)<(j:Int))=true:=by rw[decide_eq_true_iff];omega
   have hh:((i:Int)+(j:Int)) / 2=(((i+j) / 2:Nat):Int):=by omega
   rw[e,u2a,half (by omega) (by omega) (by omega),hh];have hq:(i+j) / 2<l.length:=by omega
   have e2:ix l (((i+j) / 2:Nat):Int)=some l[(i+j) / 2]:=a0r (q2y hq);rw[e2,q2u,hc,q2u];dsimp only;rw[c2g];have hp:=List.pairwise_iff_getElem.1 hr;by_cases hx:idf l[(i+j) / 2]<t
   ·rw[decide_eq_true hx,u2a,a0f (by omega) (by omega)]
    refine ih ((i+j) / 2+1) j (by omega) hj (by omega) (λq x mH eB=>?_) h2;obtain⟨mC,rfl⟩:=r2e.1 mH;by_cases j6:q=(i+j) / 2
    ·subst j6;exact hx
    ·have:=hp q ((i+j) / 2) mC hq (by omega)
     omega
   ·rw[decide_eq_false hx,u2b]
    refine ih i ((i+j) / 2) (by omega) (by omega) (by omega) h1 λq x mH hle=>?_;obtain⟨mC,rfl⟩:=r2e.1 mH;by_cases j6:q=(i+j) / 2
    ·subst j6;omega
    ·have:=hp ((i+j) / 2) q hq mC (by omega)
     omega
  ·have lX:i=j:=by omega
   subst lX;rw[decide_eq_false (by omega),u2b];exact⟨i,rfl,hj,h1,h2⟩
def Found{α:Type}(l:List α)(o:Option α)(k:Int):Prop:=(k= -1/\o=none)\/(0<=k/\∃x,ix l k=some x/\o=some x)
theorem Found.ge {α:Type}{l:List α}{o:Option α}{k:Int}(h:Found l o k):decide (k>=0)=o.isSome:=by
 rcases h with⟨rfl,rfl⟩| ⟨h,x,_,rfl⟩
 ·rfl
 ·simp;omega
theorem Found.lt {α:Type}{l:List α}{o:Option α}{k:Int}(h:Found l o k):decide (k<0)=o.isNone:=by
 rcases h with⟨rfl,rfl⟩| ⟨h,x,_,rfl⟩
 ·rfl
 ·simp;omega
theorem c1o{α:Type}{idf:α->Int}{l:List α}(hr:Rise idf l){x:α}{t:Int}(hx:x∈l)(he:idf x=t):l.find? (λy=>idf y==t)=some x:=by
 induction l with
 |nil=>cases hx
 |cons y r ih=>
  rw[List.find?_cons];have hp:=List.pairwise_cons.1 hr;rcases r2g.1 hx with rfl|hx
  ·simp[he]
  ·have:=hp.1 x hx
   have h0:(idf y==t)=false:=by simp;omega
   rw[h0];exact ih hp.2 hx
theorem p0v{α:Type}{idf:α->Int}{l:List α}{t:Int}(hr:Rise idf l){k:Nat}(hk:k<=l.length)(h1:∀(q:Nat) x,l[q]?=some x->q<k->idf x<t)(h2:∀(q:Nat) x,l[q]?=some x->k<=q->t<=idf x)(hx:∀x,l[k]?=some x->idf x≠t):
  l.find? (λy=>idf y==t)=none:=by
 rw[List.find?_eq_none];intro x hm hq;have hq:idf x=t:=by simpa using hq
 obtain⟨q,oB,rfl⟩:=List.getElem_of_mem hm;have fL:=q2y oB;rcases Nat.lt_trichotomy q k with h|h|h
 ·have:=h1 q _ fL h;omega
 ·subst h;exact hx _ fL hq
 ·have eS:k<l.length:=by omega
  have e1:=h2 k _ (q2y eS) (r2f _);have:=List.pairwise_iff_getElem.1 hr k q eS oB h;omega
def c0a(l:List Ev.Node)(t:Int):Option Ev.Node:=l.find? λy=>y.id==t
def c1c(l:List Edg)(t:Int):Option Edg:=l.find? λy=>y.id==t
theorem y0v(g:Graph)(t:Int)(n:Nat)(hr:Rise Ev.Node.id g.nodes)(hl:g.nodes.length<=40)(hn:50<=n):∃k,t0e n (g,t,())=some (k,())/\Found g.nodes (c0a g.nodes t) k:=by
 have hc:∀x:Ev.Node,q83z ((Ev.Node.mk x.id x.labels x.props),t,())=some (cmpI x.id t,()):=λx=>by
  unfold q83z;simp only[k0e,q2u]
 obtain⟨k,h1,h2,h3,h4⟩:=k1l (ρ:=Int×Bool×Unit) g.nodes Ev.Node.id t (λx=>q83z ((Ev.Node.mk x.id x.labels x.props),t,())) hc (λi j=>(g.nodes,t,(g.nodes.length:Int),i,j,()))
  (λrec=>x1a n rec (λ(v10,v11,v12,fg,_)=>
 (bif decide ((fg:Int)<v12)then
 (ix v10 fg).bind λx14=>
 (q83z ((Ev.Node.mk x14.id x14.labels x14.props),v11,())).bind λ(gq,_)=>some (fg,(gq:Int)==0,())
 else some (fg,false,()))) (λ(_)=>none)) (λi=>bif decide ((i:Int)<(g.nodes.length:Int))then
 (ix g.nodes i).bind λx14=>
 (q83z ((Ev.Node.mk x14.id x14.labels x14.props),t,())).bind λ(gq,_)=>some (i,(gq:Int)==0,())
 else some (i,false,())) (λrec i j=>rfl) hr (by omega) n 0 g.nodes.length (by omega) (by omega) (by omega) (λq x _ h=>absurd h (by omega)) (λq x h h' =>by
  obtain⟨h5,_⟩:=r2e.1 h;omega)
 have e0:q4z n (g.nodes,t,())=_:=h1;unfold t0e;dsimp only;rw[e0];by_cases hk:k<g.nodes.length
 ·have e2:ix g.nodes (k:Int)=some g.nodes[k]:=a0r (q2y hk)
  rw[decide_eq_true (by omega),u2a,e2,q2u,hc,q2u];dsimp only;rw[q2u,z0m];dsimp only;by_cases he:g.nodes[k].id=t
  ·rw[decide_eq_true he]
   exact⟨k,rfl,.inr ⟨by omega,_,e2,c1o hr (s2h hk) he⟩⟩
  ·rw[decide_eq_false he]
   refine⟨-1,rfl,.inl ⟨rfl,p0v hr h2 h3 h4 λx hx=>?_⟩⟩;rw[q2y hk]at hx;cases hx;exact he
 ·rw[decide_eq_false (by omega),u2b,q2u]
  refine⟨-1,rfl,.inl ⟨rfl,p0v hr h2 h3 h4 λx hx=>?_⟩⟩;obtain⟨h5,_⟩:=r2e.1 hx;omega
theorem k1f(g:Graph)(t:Int)(n:Nat)(hr:Rise Edg.id g.edges)(hl:g.edges.length<=60)(hn:70<=n):∃k,q70z n (g,t,())=some (k,())/\Found g.edges (c1c g.edges t) k:=by
 have hc:∀x:Edg,q63z ((Edg.mk x.id x.src x.dst x.type x.props),t,())=some (cmpI x.id t,()):=λx=>by
  unfold q63z;simp only[k0e,q2u]
 obtain⟨k,h1,h2,h3,h4⟩:=k1l (ρ:=Int×Bool×Unit) g.edges Edg.id t (λx=>q63z ((Edg.mk x.id x.src x.dst x.type x.props),t,())) hc (λi j=>(g.edges,t,(g.edges.length:Int),i,j,()))
  (λrec=>q1o n rec (λ(v10,v11,v12,fg,_)=>
 (bif decide ((fg:Int)<v12)then
 (ix v10 fg).bind λx14=>
 (q63z ((Edg.mk x14.id x14.src x14.dst x14.type x14.props),v11,())).bind λ(gq,_)=>some (fg,(gq:Int)==0,())
 else some (fg,false,()))) (λ(_)=>none)) (λi=>bif decide ((i:Int)<(g.edges.length:Int))then
 (ix g.edges i).bind λx14=>
 (q63z ((Edg.mk x14.id x14.src x14.dst x14.type x14.props),t,())).bind λ(gq,_)=>some (i,(gq:Int)==0,())
 else some (i,false,())) (λrec i j=>rfl) hr (by omega) n 0 g.edges.length (by omega) (by omega) (by omega) (λq x _ h=>absurd h (by omega)) (λq x h h' =>by
  obtain⟨h5,_⟩:=r2e.1 h;omega)
 have e0:q3z n (g.edges,t,())=_:=h1;unfold q70z;dsimp only;rw[e0];by_cases hk:k<g.edges.length
 ·have e2:ix g.edges (k:Int)=some g.edges[k]:=a0r (q2y hk)
  rw[decide_eq_true (by omega),u2a,e2,q2u,hc,q2u];dsimp only;rw[q2u,z0m];dsimp only;by_cases he:g.edges[k].id=t
  ·rw[decide_eq_true he]
   exact⟨k,rfl,.inr ⟨by omega,_,e2,c1o hr (s2h hk) he⟩⟩
  ·rw[decide_eq_false he]
   refine⟨-1,rfl,.inl ⟨rfl,p0v hr h2 h3 h4 λx hx=>?_⟩⟩;rw[q2y hk]at hx;cases hx;exact he
 ·rw[decide_eq_false (by omega),u2b,q2u]
  refine⟨-1,rfl,.inl ⟨rfl,p0v hr h2 h3 h4 λx hx=>?_⟩⟩;obtain⟨h5,_⟩:=r2e.1 hx;omega
def orE(a b:Int):Int:=bif a !=0 then a else b
theorem q2s(a b:Int)(n:Nat)(hn:5<=n):q61z n ([a,b],())=some (orE a b,()):=by
 obtain⟨m,rfl⟩:∃m,n=m+3:=⟨n - 3,by omega⟩;unfold q61z orE;dsimp only;rw[a0a];have h1:l0j (ρ:=Int×Unit) (m+3) (a0a (λky=>l0j (m+3) ky (λx=>some (x.1,())) (λx=>some (x.1,()))) (m+2)) (λx=>some (x.1,())) (λx=>some (x.1,())) (0,[a,b],(([a,b]:List Int).length:Int),0,())=
  bif a !=0 then some (a,())else(a0a (λky=>l0j (m+3) ky (λx=>some (x.1,())) (λx=>some (x.1,()))) (m+2)) (0,[a,b],(([a,b]:List Int).length:Int),1,()):=rfl
 refine h1.trans ?_;cases ha:a !=0
 ·rw[u2b,u2b,a0a]
  have h2:l0j (ρ:=Int×Unit) (m+3) (a0a (λky=>l0j (m+3) ky (λx=>some (x.1,())) (λx=>some (x.1,()))) (m+1)) (λx=>some (x.1,())) (λx=>some (x.1,())) (0,[a,b],(([a,b]:List Int).length:Int),1,())=
   bif b !=0 then some (b,())else some (0,()):=rfl
  refine h2.trans ?_;cases hb:b !=0
  ·have:b=0:=by simpa using hb
   subst this;rfl
  ·rfl
 ·rfl
def nodF:Int->List Ev.Node->Int
 |_,[]=>0
 |last,x::r=>bif decide (x.id<=last)then 6 else bif orE (labE x.labels) (prpE x.props) !=0 then orE (labE x.labels) (prpE x.props)else nodF x.id r
def nodL:Int->List Ev.Node->Int
 |last,[]=>last
 |_,x::r=>nodL x.id r
def nodB(n:Nat){ρ:Type}(kr:Int×Unit->Option ρ):Int->Ev.Node->Int->(Int->Option ρ)->Option ρ:=λi x last rec=>bif decide ((x.id:Int)<=last)then kr (6,())else
 (q84z n (x.labels,())).bind λy8=>(q91z n (x.props,())).bind λy9=>(q61z n ([y8.1,y9.1],())).bind λy10=>bif (y10.1:Int) !=0 then kr (y10.1,())else rec x.id
theorem i1x(n:Nat)(hn:60<=n){ρ:Type}(kr:Int×Unit->Option ρ)(k:Int->Option ρ):∀(l:List Ev.Node) (i last:Int),a0b (nodB n kr) k i l last=bif nodF last l !=0 then kr (nodF last l,())else k (nodL last l)
 |[],_,_=>rfl
 |x::r,i,last=>by
  rw[a0b,nodF,nodL,nodB,o1i x.labels n (by omega),q2u,i1w x.props n (by omega),q2u,q2s _ _ n (by omega),q2u,i1x n hn kr k r (i+1) x.id];dsimp only;cases decide (x.id<=last)
  ·simp only[u2b]
   cases h:orE (labE x.labels) (prpE x.props) !=0
   ·simp only[u2b]
   ·simp only[u2a,h]
  ·rfl
theorem s0s:∀{l:List Ev.Node} {last:Int},nodF last l=0->(∀x∈l,last<x.id)/\Rise Ev.Node.id l/\last<=nodL last l
 |[],last,_=>⟨λx hx=>(by cases hx),List.Pairwise.nil,t2z _⟩
 |x::r,last,h=>by
  rw[nodF]at h;cases h1:decide (x.id<=last)with
  |true=>rw[h1]at h;cases h
  |false=>
   rw[h1,u2b]at h;have aJ:=of_decide_eq_false h1;cases h2:orE (labE x.labels) (prpE x.props) !=0 with
   |true=>rw[h2,u2a]at h;rw[h]at h2;cases h2
   |false=>
    rw[h2,u2b]at h;obtain⟨i1,i2,i3⟩:=s0s h;refine⟨λy hy=>?_,List.pairwise_cons.2 ⟨i1,i2⟩,?_⟩
    ·rcases r2g.1 hy with rfl|hy
     ·omega
     ·have:=i1 y hy;omega
    ·rw[nodL];omega
def edgF(nodes:List Ev.Node):Int->List Edg->Int
 |_,[]=>0
 |last,x::r=>bif decide (x.id<=last)then 6 else bif (c0a nodes x.id).isSome then 6 else bif !(nmB x.type)then 6 else bif (c0a nodes x.src).isNone then 5 else bif (c0a nodes x.dst).isNone then 5 else
  bif prpE x.props !=0 then prpE x.props else edgF nodes x.id r
def edgL:Int->List Edg->Int
 |last,[]=>last
 |_,x::r=>edgL x.id r
def topM:Int->List Edg->Int
 |top,[]=>top
 |top,x::r=>topM (if x.id>top then x.id else top) r
def edgB(n:Nat)(g:Graph){ρ:Type}(kr:Int×Unit->Option ρ):Int->Edg->Int->(Int->Option ρ)->Option ρ:=λi x last rec=>bif decide ((x.id:Int)<=last)then kr (6,())else
 (t0e n (g,x.id,())).bind λy21=>bif decide ((y21.1:Int) >=0)then kr (6,())else
 (i0w n (x.type,())).bind λy22=>bif !y22.1 then kr (6,())else
 (t0e n (g,x.src,())).bind λy23=>bif decide ((y23.1:Int)<0)then kr (5,())else
 (t0e n (g,x.dst,())).bind λy24=>bif decide ((y24.1:Int)<0)then kr (5,())else
 (q91z n (x.props,())).bind λy25=>bif (y25.1:Int) !=0 then kr (y25.1,())else rec x.id
theorem k1u(n:Nat)(hn:60<=n)(g:Graph)(hr:Rise Ev.Node.id g.nodes)(hl:g.nodes.length<=40){ρ:Type}(kr:Int×Unit->Option ρ)(k:Int->Option ρ):∀(l:List Edg) (i last:Int),a0b (edgB n g kr) k i l last=bif edgF g.nodes last l !=0 then kr (edgF g.nodes last l,())else k (edgL last l)
 |[],_,_=>rfl
 |x::r,i,last=>by
  obtain⟨k1,a1,b1⟩:=y0v g x.id n hr hl (by omega);obtain⟨k2,a2,b2⟩:=y0v g x.src n hr hl (by omega);obtain⟨k3,a3,b3⟩:=y0v g x.dst n hr hl (by omega);rw[a0b,edgF,edgL,edgB,a1,q2u,a2,q2u,a3,q2u,i1w x.props n (by omega),q2u,i0b x.type n (by omega),q2u,k1u n hn g hr hl kr k r (i+1) x.id];dsimp only;rw[b1.ge,b2.lt,b3.lt];cases decide (x.id<=last)
  ·cases (c0a g.nodes x.id).isSome
   ·cases !(nmB x.type)
    ·cases (c0a g.nodes x.src).isNone
     ·cases (c0a g.nodes x.dst).isNone
      ·simp only[u2b]
       cases h:prpE x.props !=0
       ·simp only[u2b]
       ·simp only[u2a,h]
      ·rfl
     ·rfl
    ·rfl
   ·rfl
  ·rfl
theorem z0x{nodes:List Ev.Node}:∀{l:List Edg} {last:Int},edgF nodes last l=0->(∀x∈l,last<x.id)/\Rise Edg.id l/\∀top,topM (if last>top then last else top) l=(if edgL last l>top then edgL last l else top)
 |[],last,_=>⟨λx hx=>(by cases hx),List.Pairwise.nil,λtop=>rfl⟩
 |x::r,last,h=>by
  rw[edgF]at h;cases h1:decide (x.id<=last)with
  |true=>rw[h1]at h;cases h
  |false=>
   rw[h1,u2b]at h;have aJ:=of_decide_eq_false h1;have h0:edgF nodes x.id r=0:=by
    cases h2:(c0a nodes x.id).isSome with
    |true=>rw[h2]at h;cases h
    |false=>
     cases h3: !(nmB x.type)with
     |true=>rw[h2,h3]at h;cases h
     |false=>
      cases h4:(c0a nodes x.src).isNone with
      |true=>rw[h2,h3,h4]at h;cases h
      |false=>
       cases h5:(c0a nodes x.dst).isNone with
       |true=>rw[h2,h3,h4,h5]at h;cases h
       |false=>
        rw[h2,h3,h4,h5]at h;simp only[u2b]at h;cases h6:prpE x.props !=0 with
        |true=>rw[h6,u2a]at h;rw[h]at h6;cases h6
        |false=>rw[h6]at h;exact h
   obtain⟨i1,i2,i3⟩:=z0x h0;refine⟨λy hy=>?_,List.pairwise_cons.2 ⟨i1,i2⟩,λtop=>?_⟩
   ·rcases r2g.1 hy with rfl|hy
    ·omega
    ·have:=i1 y hy;omega
   ·rw[topM,edgL, <-i3 top]
    congr 1;rcases Int.lt_or_le top last with h9|h9
    ·have e:(if last>top then last else top)=last:=if_pos h9
     rw[e,if_pos (show x.id>last by omega),if_pos (show x.id>top by omega)]
    ·have e:(if last>top then last else top)=top:=if_neg (by omega)
     rw[e]
def maxI(a b:Int):Int:=if a>b then a else b
def chkG(g:Graph):Int:=bif (decide ((g.nodes.length:Int) >40)) || (decide ((g.edges.length:Int) >60))then 2 else bif nodF 0 g.nodes !=0 then nodF 0 g.nodes else bif edgF g.nodes 0 g.edges !=0 then edgF g.nodes 0 g.edges else
 bif (decide ((g.next:Int)<=maxI (edgL 0 g.edges) (nodL 0 g.nodes))) || (decide ((g.next:Int) >1099511627776))then 9 else 0
theorem r0i(g:Graph)(n:Nat)(hn:80<=n):q90z n (g,())=some (chkG g,()):=by
 unfold q90z chkG;dsimp only;cases hb:(decide ((g.nodes.length:Int) >40)) || (decide ((g.edges.length:Int) >60))with
 |true=>rfl
 |false=>
  have h1:=of_decide_eq_false (r2o.1 hb).1;have h2:=of_decide_eq_false (r2o.1 hb).2;rw[u2b,u2b];refine(d0h g.nodes (λi (s:Int)=>(s,g.nodes,(g.nodes.length:Int),i,(g,()),())) _ (nodB n (λx=>some (x.1,()))) _ (λrec i s=>rfl) (by omega) n 0 (by omega)).trans ?_;rw[i1x n (by omega)];cases h3:nodF 0 g.nodes !=0 with
  |true=>rfl
  |false=>
   have dP:nodF 0 g.nodes=0:=by simpa using h3
   rw[u2b,u2b];refine(d0h g.edges (λi (s:Int)=>(s,nodL 0 g.nodes,g.edges,(g.edges.length:Int),i,(g,()),())) _ (edgB n g (λx=>some (x.1,()))) _ (λrec i s=>rfl) (by omega) n 0 (by omega)).trans ?_;rw[k1u n (by omega) g (s0s dP).2.1 (by omega)];cases h4:edgF g.nodes 0 g.edges !=0 with
   |true=>rfl
   |false=>
    rw[u2b,u2b];dsimp only;unfold maxI;cases (decide ((g.next:Int)<=if edgL 0 g.edges>nodL 0 g.nodes then edgL 0 g.edges else nodL 0 g.nodes)) || (decide ((g.next:Int) >1099511627776))<;>rfl
theorem e0l{n b:Nat}(h:n<=1000)(hb:b<=1000):room n b=true:=by
 unfold room;rw[q2w];exact⟨r2n (by omega),r2n (by have:n*b<=1000*1000:=Nat.mul_le_mul h hb;omega)⟩
theorem b1q{ρ:Type}(self:Val×Unit->Option Y6)(k:List Val->Option ρ):∀(r p:List Val) (i:Int),(∀x∈r,self (x,())=some (x,()))->p.length+r.length<=30->
  a0b (λ(i:Int) (x:Val) (s:List Val) (rec:List Val->Option ρ)=>(self (x,())).bind λy=>ck (room (s++([y.1]:List Val)).length 56) (rec (s++([y.1]:List Val)))) k i r p=k (p++r)
 |[],p,i,_,_=>by simp[a0b]
 |x::r,p,i,h,hl=>by
  rw[a0b,h x (by simp),q2u];dsimp only;rw[b0z (e0l (by simp at hl⊢;omega) (by omega)),b1q self k r (p++ [x]) (i+1) (λy hy=>h y (by simp[hy])) (by simp at hl⊢;omega)];simp
theorem q0w(v:Val):∀(d:Int) (n:Nat),1<=d->d<=7->40<=n+d.toNat->chk v d=0->i0n n (v,())=some (v,()):=by
 induction v using f0v with
 |_ k a s l ih=>
  intro d n h1 h2 h3 hc;obtain⟨m,rfl⟩:∃m,n=m+1:=⟨n - 1,by omega⟩;have key:l.length<=30->(∀x∈l,i0n m (x,())=some (x,()))->i0n (m+1) (.mk k a s l,())=some (.mk k a s l,()):=by
   intro hl hs;rw[i0n];unfold f1h;dsimp+instances only[b0e,n_mk,s_mk,l_mk];refine(d0h l (λi (s0:List Val)=>(l,(l.length:Int),i,(k,a,s,()),((Val.mk 0 0 zb0 ([]:List Val)),()),s0,())) _ (λ(i:Int) (x:Val) (s:List Val) rec=>(i0n m (x,())).bind λy=>ck (room (s++([y.1]:List Val)).length 56) (rec (s++([y.1]:List Val)))) (λs0=>some (.mk k a s s0,()))
    (λrec i s=>by simp only[v0x,Val.eta]) (by omega) m [] (by omega)).trans ?_
   rw[b1q _ _ l [] 0 hs (by simpa using hl)];rfl
  rw[chk]at hc;have nil:∀{x:Bool},fin6 (x&& ((l.length:Int)==0))=0->l=[]:=λ{x} h=>by
   have:=u0t h;rw[q2w]at this;simpa using this.2
  have key0:l=[]->i0n (m+1) (.mk k a s l,())=some (.mk k a s l,()):=λh=>key (by rw[h];simp) (by rw[h];intro x hx;cases hx);cases h0:k==0
  ·rw[h0]at hc
   cases h1:k==1
   ·rw[h1]at hc
    cases h2:k==2
    ·rw[h2]at hc
     cases h3:k==3
     ·rw[h3]at hc
      cases h4:k==4
      ·rw[h4]at hc;cases hc
      ·rw[h4]at hc
       simp only[u2b,u2a]at hc;cases hb:decide ((l.length:Int) >30) || decide (d>6)
       ·rw[hb]at hc
        have hb2:=r2o.1 hb;have dP:=of_decide_eq_false hb2.1;have h6:=of_decide_eq_false hb2.2;simp only[u2b]at hc;cases gA:chks l (d+1) !=0
        ·have fw:chks l (d+1)=0:=by simpa using gA
         exact key (by omega) λx hx=>ih x hx (d+1) m (by omega) (by omega) (by omega) (w1m fw x hx)
        ·rw[gA]at hc
         have h0:chks l (d+1)=0:=hc;simp[h0]at gA
       ·rw[hb]at hc;cases hc
     ·rw[h3]at hc
      simp only[u2b,u2a]at hc;cases hb:decide ((s.size:Int) >4000)
      ·rw[hb]at hc
       simp only[u2b]at hc;cases ha:a==0
       ·rw[ha]at hc;cases hc
       ·rw[ha]at hc
        exact key0 (nil hc)
      ·rw[hb]at hc;cases hc
    ·rw[h2]at hc
     exact key0 (nil hc)
   ·rw[h1]at hc
    exact key0 (nil hc)
  ·rw[h0]at hc
   exact key0 (nil hc)
theorem e2b:∀{l:List Prp} {prev:Bt},prpF prev l=0->∀x∈l,chk x.val 1=0
 |[],_,_=>λx hx=>(by cases hx)
 |y::r,prev,h=>by
  rw[prpF]at h;cases h1:((!(nmB y.name)) || (e0w y.name prev || seq y.name prev)) || (y.val.kind==0)with
  |true=>rw[h1]at h;cases h
  |false=>
   rw[h1,u2b]at h;cases h2:chk y.val 1 !=0 with
   |true=>rw[h2,u2a]at h;rw[h]at h2;cases h2
   |false=>
    rw[h2]at h;have h0:chk y.val 1=0:=by simpa using h2
    intro x hx;rcases r2g.1 hx with rfl|hx
    ·exact h0
    ·exact e2b h x hx
theorem d2b{l:List Prp}(h:prpE l=0):l.length<=6/\∀x∈l,chk x.val 1=0:=by
 unfold prpE at h;cases h1:decide ((l.length:Int) >6)with
 |true=>rw[h1]at h;cases h
 |false=>
  rw[h1]at h;have:=of_decide_eq_false h1;exact⟨by omega,e2b h⟩
theorem i1n:∀{l:List Ev.Node} {last:Int},nodF last l=0->∀x∈l,labE x.labels=0/\prpE x.props=0
 |[],_,_=>λx hx=>(by cases hx)
 |y::r,last,h=>by
  rw[nodF]at h;cases h1:decide (y.id<=last)with
  |true=>rw[h1]at h;cases h
  |false=>
   rw[h1,u2b]at h;cases h2:orE (labE y.labels) (prpE y.props) !=0 with
   |true=>rw[h2,u2a]at h;rw[h]at h2;cases h2
   |false=>
    rw[h2]at h;have h0:orE (labE y.labels) (prpE y.props)=0:=by simpa using h2
    unfold orE at h0;intro x hx;rcases r2g.1 hx with rfl|hx
    ·cases h3:labE x.labels !=0 with
     |true=>rw[h3,u2a]at h0;rw[h0]at h3;cases h3
     |false=>rw[h3]at h0;exact⟨by simpa using h3,h0⟩
    ·exact i1n h x hx
theorem j1t{nodes:List Ev.Node}:∀{l:List Edg} {last:Int},edgF nodes last l=0->∀x∈l,prpE x.props=0/\(c0a nodes x.id).isSome=false/\(c0a nodes x.src).isNone=false/\(c0a nodes x.dst).isNone=false
 |[],_,_=>λx hx=>(by cases hx)
 |y::r,last,h=>by
  rw[edgF]at h;cases h1:decide (y.id<=last)with
  |true=>rw[h1]at h;cases h
  |false=>
   cases h2:(c0a nodes y.id).isSome with
   |true=>rw[h1,h2]at h;cases h
   |false=>
    cases h3: !(nmB y.type)with
    |true=>rw[h1,h2,h3]at h;cases h
    |false=>
     cases h4:(c0a nodes y.src).isNone with
     |true=>rw[h1,h2,h3,h4]at h;cases h
     |false=>
      cases h5:(c0a nodes y.dst).isNone with
      |true=>rw[h1,h2,h3,h4,h5]at h;cases h
      |false=>
       rw[h1,h2,h3,h4,h5]at h;simp only[u2b]at h;cases h6:prpE y.props !=0 with
       |true=>rw[h6,u2a]at h;rw[h]at h6;cases h6
       |false=>
        rw[h6]at h;intro x hx;rcases r2g.1 hx with rfl|hx
        ·exact⟨by simpa using h6,h2,h4,h5⟩
        ·exact j1t h x hx
theorem i0f{g:Graph}(h:chkG g=0):g.nodes.length<=40/\g.edges.length<=60/\nodF 0 g.nodes=0/\edgF g.nodes 0 g.edges=0:=by
 unfold chkG at h;cases hb:(decide ((g.nodes.length:Int) >40)) || (decide ((g.edges.length:Int) >60))with
 |true=>rw[hb]at h;cases h
 |false=>
  have h1:=of_decide_eq_false (r2o.1 hb).1;have h2:=of_decide_eq_false (r2o.1 hb).2;rw[hb,u2b]at h;cases h3:nodF 0 g.nodes !=0 with
  |true=>rw[h3,u2a]at h;rw[h]at h3;cases h3
  |false=>
   rw[h3,u2b]at h;cases h4:edgF g.nodes 0 g.edges !=0 with
   |true=>rw[h4,u2a]at h;rw[h]at h4;cases h4
   |false=>exact⟨by omega,by omega,by simpa using h3,by simpa using h4⟩
def r1r:Val:=.mk 0 0 zb0 []
def k0s:List Prp->Bt->Val
 |[],_=>r1r
 |x::r,s=>bif seq x.name s then x.val else k0s r s
theorem v0h(s:Bt):∀l:List Prp,k0s l s=r1r\/∃x∈l,k0s l s=x.val
 |[]=>.inl rfl
 |x::r=>by
  rw[k0s];cases seq x.name s
  ·rcases v0h s r with h|⟨y,h1,h2⟩
   ·exact .inl h
   ·exact .inr ⟨y,by simp[h1],h2⟩
  ·exact .inr ⟨x,by simp,rfl⟩
theorem k1k(n:Nat)(hn:40<=n)(s:Bt)(k:Unit->Option Y6)(hk:k ()=some (r1r,())):∀(l:List Prp) (i:Int),(∀x∈l,chk x.val 1=0)->a0b (λ(i:Int) (x:Prp) (u:Unit) (rec:Unit->Option Y6)=>bif seq x.name s then(i0n n (x.val,())).bind λy=>some (y.1,())else rec u) k i l ()=some (k0s l s,())
 |[],i,_=>hk
 |x::r,i,h=>by
  rw[a0b,k0s,q0w x.val 1 n (by omega) (by omega) (by omega) (h x (by simp)),q2u,k1k n hn s k hk r (i+1) λy hy=>h y (by simp[hy])];cases seq x.name s<;>rfl
theorem d2a(l:List Prp)(s:Bt)(n:Nat)(hn:40<=n)(hl:l.length<=6)(h:∀x∈l,chk x.val 1=0):j0d n (l,s,())=some (k0s l s,()):=by
 unfold j0d;exact(d0h l (λi (u:Unit)=>(s,l,(l.length:Int),i,(r1r,()),())) _ (λ(i:Int) (x:Prp) (u:Unit) (rec:Unit->Option Y6)=>bif seq x.name s then(i0n n (x.val,())).bind λy=>some (y.1,())else rec u) (λ_=>some (r1r,()))
  (λrec i u=>by simp only[i0m,Val.eta];rfl) (by omega) n () (by omega)).trans (k1k n hn s _ rfl l 0 h)
theorem o1c{l:List Ev.Node}{t:Int}{x:Ev.Node}(h:c0a l t=some x):x∈l:=List.mem_of_find?_eq_some h
theorem v0f{l:List Edg}{t:Int}{x:Edg}(h:c1c l t=some x):x∈l:=List.mem_of_find?_eq_some h
def hasL(l:List Bt)(s:Bt):Bool:=l.any λx=>seq s x
theorem v0a(s:Bt)(k:Unit->Option Y5)(hk:k ()=some (-1,())):∀(l:List Bt) (i:Int),0<=i->∃j,a0b (λ(i:Int) (x:Bt) (u:Unit) (rec:Unit->Option Y5)=>bif seq s x then some (i,())else rec u) k i l ()=some (j,())/\decide (j>=0)=hasL l s
 |[],i,_=>⟨-1,hk,rfl⟩
 |x::r,i,hi=>by
  obtain⟨j,h1,h2⟩:=v0a s k hk r (i+1) (by omega);rw[a0b,h1];unfold hasL at h2⊢;rw[List.any_cons];cases seq s x
  ·exact⟨j,rfl,by rw[h2];rfl⟩
  ·exact⟨i,rfl,by simpa using hi⟩
end Pure

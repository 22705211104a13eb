import Derived.Test.YtnaeiccibhdknaaGreatDoorPCode
import Derived.KernelRfl
set_option linter.unusedSimpArgs false
set_option linter.unusedVariables false
noncomputable section
namespace Pure
open Esp Ev Go
theorem Val.eta (v:Val):Val.mk v.kind v.n v.s v.l=v:=by cases v;rfl
theorem b0e(k n:Int)(s:Bt)(l:List Val):(Val.mk k n s l).kind=k:=rfl
theorem n_mk(k n:Int)(s:Bt)(l:List Val):(Val.mk k n s l).n=n:=rfl
theorem s_mk(k n:Int)(s:Bt)(l:List Val):(Val.mk k n s l).s=s:=rfl
theorem l_mk(k n:Int)(s:Bt)(l:List Val):(Val.mk k n s l).l=l:=rfl
mutual
theorem f0t{p:Val->Prop}(h:∀k n s l,(∀x∈l,p x)->p (.mk k n s l)):∀v,p v
 |.mk k n s l=>h k n s l (i1w h l)
theorem i1w{p:Val->Prop}(h:∀k n s l,(∀x∈l,p x)->p (.mk k n s l)):∀l:List Val,∀x∈l,p x
 |[]=>λ_ hx=>by cases hx
 |y::r=>List.forall_mem_cons.2 ⟨f0t h y,i1w h r⟩
end
theorem a0h(a b:Bt):seq a b=true↔a=b:=by
 unfold seq;constructor
 ·intro h
  have h2:=eq_of_beq h;rw[ByteArray.toList_eq,ByteArray.toList_eq]at h2;cases a;cases b;congr 1;exact Array.toList_inj.1 h2
 ·rintro rfl
  exact beq_self_eq_true _
theorem b0h(a:Bt):seq a a=true:=(a0h a a).2 rfl
def fin6(b:Bool):Int:=bif b then 0 else 6
mutual
def chk:Val->Int->Int
 |.mk k n s l,d=>
  bif k==0 then fin6 (((n==0)&&seq s zb0)&& ((l.length:Int)==0))
  else bif k==1 then fin6 ((((n==0) || (n==1))&&seq s zb0)&& ((l.length:Int)==0))
  else bif k==2 then fin6 (seq s zb0&& ((l.length:Int)==0))
  else bif k==3 then(bif decide ((s.size:Int) >4000)then 2 else bif n==0 then fin6 (p0c s&& ((l.length:Int)==0))else 6)
  else bif k==4 then(bif decide ((l.length:Int) >30) || decide (d>6)then 2 else bif chks l (d+1) !=0 then chks l (d+1)else fin6 ((n==0)&&seq s zb0))
  else 6
def chks:List Val->Int->Int
 |[],_=>0
 |x::r,d=>bif chk x d !=0 then chk x d else chks r d
end
theorem h1h{s:Bt}(h:(s.size:Int)<=4000):z0j (s,())=some (p0c s,()):=by
 unfold z0j;show(bif Nat.ble s.size 9223372036854775807 then some (p0c s,())else none)=_
 rw[r2y (by omega)];rfl
theorem l1j{ρ:Type}(self:Val×Int×Unit->Option Y5)(n:Nat)(l:List Val)(d:Int)(hd:wI (d+1)=d+1)(hs:∀x∈l,self (x,d+1,())=some (chk x (d+1),()))(hl:l.length<=30)(o:Val)
  (kx:Y6×Unit->Option ρ)(kr:Int×Unit->Option ρ):
  ∀(r p:List Val),l=p++r->∀fuel,r.length<fuel->a0a (λrc=>m0n self n rc kx kr) fuel (d,l,(l.length:Int),(p.length:Int),(o,()),())=bif chks r (d+1) !=0 then kr (chks r (d+1),())else kx ((o,()),()):=by
 intro r
 induction r with
 |nil=>
  intro p hp fuel hf;obtain⟨m,rfl⟩:∃m,fuel=m+1:=⟨fuel - 1,by omega⟩;have e:decide ((p.length:Int)<(l.length:Int))=false:=by rw[decide_eq_false_iff_not];subst hp;simp
  simp only[a0a,m0n,Val.eta,e,u2k,chks];rfl
 |cons x r ih=>
  intro p hp fuel hf;obtain⟨m,rfl⟩:∃m,fuel=m+1:=⟨fuel - 1,by omega⟩;have hlen:l.length=p.length+(r.length+1):=by rw[hp];simp
  have e:decide ((p.length:Int)<(l.length:Int))=true:=by rw[decide_eq_true_iff];omega
  have e2:ix l (p.length:Int)=some x:=a0r (by rw[hp];simp);have e3:wI ((p.length:Int)+1)=((p++ [x]).length:Int):=by rw[a0f (by omega) (by omega)];simp
  have e4:=hs x (by rw[hp];simp);have e5:=ih (p++ [x]) (by simp[hp]) m (by simp at hf;omega);rw[a0a];simp only[m0n,Val.eta,e,e2,e3,hd,e4,u2j,r2g,e5];rw[chks];cases hc:chk x (d+1) !=0<;>simp[hc]
theorem c2o(v:Val):∀(d:Int) (n:Nat),1<=d->d<=7->40<=n+d.toNat->m1r n (v,d,())=some (chk v d,()):=by
 induction v using f0t with
 |_ k a s l ih=>
  intro d n h1 h2 h3;obtain⟨m,rfl⟩:∃m,n=m+1:=⟨n - 1,by omega⟩;simp only[m1r,g1l,chk,Val.eta];dsimp+instances only[b0e,n_mk,s_mk,l_mk];cases k==0
  ·cases k==1
   ·cases k==2
    ·cases k==3
     ·cases k==4
      ·rfl
      ·simp only[u2k,u2j]
       cases hb:decide ((l.length:Int) >30) || decide (d>6)
       ·have hb2:=r2x.1 hb
        have dM:=of_decide_eq_false hb2.1;have h6:=of_decide_eq_false hb2.2;have hw:wI (d+1)=d+1:=a0f (by omega) (by omega);simp only[u2k,Val.eta];have:=l1j (ρ:=Int×Unit) (m1r m) m l d hw (λx hx=>ih x hx (d+1) m (by omega) (by omega) (by omega)) (by omega) (.mk k a s l)
         (λ(o11,_)=>(bif !(((o11.1.n:Int)==0)&& (seq o11.1.s zb0))then some (6,())else some (0,()))) (λx=>some ((x.1:Int),())) l [] rfl m (by omega)
        refine this.trans ?_;cases chks l (d+1) !=0
        ·simp only[u2k,b0e,n_mk,s_mk,l_mk]
         cases (a==0)&&seq s zb0<;>rfl
        ·rfl
       ·rfl
     ·simp only[u2k,u2j]
      cases hb:decide ((s.size:Int) >4000)
      ·have:=of_decide_eq_false hb
       simp only[u2k];cases a==0
       ·rfl
       ·simp only[u2j,h1h (s:=s) (by omega),r2g]
        cases p0c s&& ((l.length:Int)==0)<;>rfl
      ·rfl
    ·simp only[u2k,u2j]
     cases seq s zb0&& ((l.length:Int)==0)<;>rfl
   ·simp only[u2k,u2j]
    cases ((a==0) || (a==1))&&seq s zb0&& ((l.length:Int)==0)<;>rfl
  ·simp only[u2j]
   cases (a==0)&&seq s zb0&& ((l.length:Int)==0)<;>rfl
theorem l0s(v:Val)(n:Nat)(h:40<=n):j0k n (v,())=some (chk v 1,()):=by
 simp only[j0k,Val.eta,c2o v 1 n (by omega) (by omega) (by omega),r2g]
inductive Right:Val->Int->Prop
 |null (d:Int):Right (.mk 0 0 zb0 []) d
 |truth (n:Int) (d:Int):n=0\/n=1->Right (.mk 1 n zb0 []) d
 |int (n:Int) (d:Int):wfI .i64 n->Right (.mk 2 n zb0 []) d
 |text (s:Bt) (d:Int):s.size<=4000->p0c s=true->Right (.mk 3 0 s []) d
 |list (l:List Val) (d:Int):l.length<=30->d<=6->(∀x∈l,Right x (d+1))->Right (.mk 4 0 zb0 l) d
theorem t0x{b:Bool}(h:fin6 b=0):b=true:=by cases b<;>first|rfl|(unfold fin6 at h;simp at h)
theorem s1m{l:List Val}{d:Int}(h:chks l d=0):∀x∈l,chk x d=0:=by
 induction l with
 |nil=>intro x hx;cases hx
 |cons y r ih=>
  rw[chks]at h;cases hc:chk y d !=0
  ·rw[hc]at h
   have fA:chk y d=0:=by simpa using hc
   intro x hx;rcases r2s.1 hx with rfl|hx
   ·exact fA
   ·exact ih h x hx
  ·rw[hc]at h
   have h0:chk y d=0:=h;simp[h0]at hc
theorem p0y(v:Val):∀d,vOk v->chk v d=0->Right v d:=by
 induction v using f0t with
 |_ k a s l ih=>
  intro d hv h;rw[vOk,c0s]at hv;have hlen:∀{x:Bool},(x&& ((l.length:Int)==0))=true->x=true/\l=[]:=λh=>by
   rw[r2i]at h;exact⟨h.1,by have:=h.2;simpa using this⟩
  rw[chk]at h;cases h0:k==0
  ·rw[h0]at h
   cases h1:k==1
   ·rw[h1]at h
    cases h2:k==2
    ·rw[h2]at h
     cases h3:k==3
     ·rw[h3]at h
      cases h4:k==4
      ·rw[h4]at h;cases h
      ·rw[h4]at h
       have hk:k=4:=by simpa using h4
       subst hk;simp only[u2k,u2j]at h;cases hb:decide ((l.length:Int) >30) || decide (d>6)
       ·rw[hb]at h
        have hb2:=r2x.1 hb;have dM:=of_decide_eq_false hb2.1;have h6:=of_decide_eq_false hb2.2;simp only[u2k]at h;cases hc:chks l (d+1) !=0
        ·rw[hc]at h
         have fA:chks l (d+1)=0:=by simpa using hc
         have h7:=t0x h;rw[r2i,a0h]at h7;obtain⟨h8,rfl⟩:=h7;have:a=0:=by simpa using h8
         subst this;exact .list l d (by omega) (by omega) λx hx=>ih x hx (d+1) (hv.2.2.2.2 x hx) (s1m fA x hx)
        ·rw[hc]at h
         have h0:chks l (d+1)=0:=h;simp[h0]at hc
       ·rw[hb]at h;cases h
     ·rw[h3]at h
      have hk:k=3:=by simpa using h3
      subst hk;simp only[u2k,u2j]at h;cases hb:decide ((s.size:Int) >4000)
      ·rw[hb]at h
       have bX:=of_decide_eq_false hb;simp only[u2k]at h;cases ha:a==0
       ·rw[ha]at h;cases h
       ·rw[ha]at h
        obtain⟨h5,rfl⟩:=hlen (t0x h);have:a=0:=by simpa using ha
        subst this;exact .text s d (by omega) h5
      ·rw[hb]at h;cases h
    ·rw[h2]at h
     have hk:k=2:=by simpa using h2
     subst hk;obtain⟨h5,rfl⟩:=hlen (t0x h);obtain rfl:=(a0h _ _).1 h5;exact .int a d hv.2.1
   ·rw[h1]at h
    have hk:k=1:=by simpa using h1
    subst hk;obtain⟨h5,rfl⟩:=hlen (t0x h);rw[r2i,a0h]at h5;obtain⟨h6,rfl⟩:=h5;exact .truth a d (by simpa using h6)
  ·rw[h0]at h
   have hk:k=0:=by simpa using h0
   subst hk;obtain⟨h5,rfl⟩:=hlen (t0x h);rw[r2i,a0h]at h5;obtain⟨h6,rfl⟩:=h5;have:a=0:=by simpa using h6
   subst this;exact .null d
def lttI(c:Int):Bool:=(((decide (c>=97))&& (decide (c<=122))) || ((decide (c>=65))&& (decide (c<=90)))) || (c==95)
def nmF:Int->List Int->Bool
 |_,[]=>true
 |i,c::r=>bif !(lttI c)&& (((i==0) || (decide (c<48))) || (decide (c>57)))then false else nmF (i+1) r
def nmB(s:Bt):Bool:=bif (seq s zb0) || (decide ((s.size:Int) >12))then false else nmF 0 (bi s.data.toList)
theorem v1s:∀(l:List Int) (i:Int),a0b (λi c (s:Unit) (rec:Unit->Option Y11)=>bif !(lttI c)&& (((i==0) || (decide (c<48))) || (decide (c>57)))then some (false,())else rec s) (λ_=>some (true,())) i l ()=some (nmF i l,())
 |[],i=>rfl
 |c::r,i=>by
  rw[a0b,nmF];cases !(lttI c)&& (((i==0) || (decide (c<48))) || (decide (c>57)))
  ·simp only[u2k];exact v1s r (i+1)
  ·rfl
theorem h0v(s:Bt)(n:Nat)(hn:20<=n):j0a n (s,())=some (nmB s,()):=by
 unfold j0a nmB;dsimp only;cases hb:(seq s zb0) || (decide ((s.size:Int) >12))with
 |true=>rfl
 |false=>
  have mb:=of_decide_eq_false (r2x.1 hb).2;rw[u2k,u2k];exact(q1m s (λi (_:Unit)=>(s,(s.size:Int),i,())) _ (λi c s rec=>bif !(lttI c)&& (((i==0) || (decide (c<48))) || (decide (c>57)))then some (false,())else rec s) (λ_=>some (true,()))
   (λrec i s=>rfl) (by omega) n () (by omega)).trans (v1s _ 0)
theorem o2g(a b:UInt8):(decide (a<b))=decide (a.toNat<b.toNat):=by
 by_cases h:a<b
 ·rw[decide_eq_true h,decide_eq_true (UInt8.lt_iff_toNat_lt.1 h)]
 ·rw[decide_eq_false h,decide_eq_false λh2=>h (UInt8.lt_iff_toNat_lt.2 h2)]
theorem p2z(a b:UInt8):(a==b)=decide (a.toNat=b.toNat):=by
 by_cases h:a=b
 ·subst h;simp
 ·have:¬a.toNat=b.toNat:=λh2=>h (UInt8.toNat_inj.1 h2)
  simp[h,this]
theorem u0u:∀x y:List UInt8,(!(Op.bytesLess y x))=(Op.bytesLess x y || x==y)
 |[],[]=>rfl
 |[],b::y=>rfl
 |a::x,[]=>rfl
 |a::x,b::y=>by
  have ih:=u0u x y;rw[Op.bytesLess,Op.bytesLess,List.cons_beq_cons,o2g,o2g,p2z,p2z];rcases Nat.lt_trichotomy a.toNat b.toNat with h|h|h
  ·simp[h,show ¬b.toNat<a.toNat by omega,show ¬b.toNat=a.toNat by omega]
  ·simp only[h,Nat.lt_irrefl,decide_false,s2q,decide_true,t2k]
   exact ih
  ·simp[h,show ¬a.toNat<b.toNat by omega,show ¬a.toNat=b.toNat by omega]
theorem c0v(x y:Bt):(!(e0r y x))=(e0r x y || seq x y):=u0u _ _
theorem z0k(x:Bt):e0r x zb0=false:=by
 unfold e0r;have:zb0.toList=[]:=by rw[ByteArray.toList_eq]
 rw[this];cases x.toList<;>rfl
theorem o2j{x:Bt}(h:nmB x=true):seq x zb0=false:=by
 cases hs:seq x zb0 with
 |false=>rfl
 |true=>unfold nmB at h;rw[hs]at h;cases h
def labF:Bt->List Bt->Int
 |_,[]=>0
 |prev,x::r=>bif (!(nmB x)) || (e0r x prev || seq x prev)then 6 else labF x r
def labE(l:List Bt):Int:=bif decide ((l.length:Int) >4)then 2 else labF zb0 l
def v1j(p:List Bt):Bt:=p.getLastD zb0
theorem o0f(p:List Bt)(x:Bt):v1j (p++ [x])=x:=by unfold v1j;simp
theorem v0b{α:Type}(p:List α):p=[]\/ ∃q y,p=q++ [y]:=by
 rcases List.eq_nil_or_concat p with h|⟨q,y,h⟩
 ·exact .inl h
 ·exact .inr ⟨q,y,by simpa using h⟩
theorem k1r(l:List Bt)(n:Nat)(hn:20<=n)(hl:l.length<=1000):∀(r p:List Bt),l=p++r->a0b (λ(i:Int) x (s:Unit) (rec:Unit->Option Y5)=>(j0a n (x,())).bind λy=>bif !y.1 then some (6,())else
  bif decide (i>0)then(ix l (wI (i - 1))).bind λz=>bif !(e0r z x)then some (6,())else rec s else rec s) (λ_=>some (0,())) (p.length:Int) r ()=some (labF (v1j p) r,())
 |[],_,_=>rfl
 |x::r,p,hp=>by
  have ih:=k1r l n hn hl r (p++ [x]) (by simp[hp]);rw[o0f]at ih;have e1:((p.length:Int)+1)=((p++ [x]).length:Int):=by simp
  rw[a0b,labF,h0v x n hn,r2g,e1,ih];dsimp only;cases k7:nmB x with
  |false=>rfl
  |true=>
   simp only[s2l,u2k,s2q];rcases v0b p with rfl|⟨q,y,rfl⟩
   ·rw[show decide (((([]:List Bt).length:Nat):Int) >0)=false from rfl,u2k]
    rw[show v1j []=zb0 from rfl,z0k,o2j k7]
    rfl
   ·have hq:l=q++y::(x::r):=by rw[hp];simp
    have e2:decide ((((q++ [y]).length:Nat):Int) >0)=true:=by simp
    have e3:wI (((q++ [y]).length:Int) - 1)=(q.length:Int):=by
     have:(q++ [y]).length=q.length+1:=by simp
     have h2:l.length=q.length+(r.length+2):=by rw[hq];simp
     rw[a0f (by omega) (by omega)];omega
    have e4:ix l (q.length:Int)=some y:=a0r (by rw[hq];simp);rw[e2,e3,e4,u2j,r2g,o0f,c0v];cases e0r x y || seq x y<;>rfl
theorem w1a(l:List Bt)(n:Nat)(hn:20<=n):q87z n (l,())=some (labE l,()):=by
 unfold q87z labE;dsimp only;cases hb:decide ((l.length:Int) >4)with
 |true=>rfl
 |false=>
  have h4:=of_decide_eq_false hb;rw[u2k,u2k];exact(c0j l (λi (s:Unit)=>(l,l,(l.length:Int),i,())) _ (λ(i:Int) x (s:Unit) (rec:Unit->Option Y5)=>(j0a n (x,())).bind λy=>bif !y.1 then some (6,())else
   bif decide (i>0)then(ix l (wI (i - 1))).bind λz=>bif !(e0r z x)then some (6,())else rec s else rec s) (λ_=>some (0,()))
   (λrec i s=>rfl) (by omega) n _ (by omega)).trans (k1r l n hn (by omega) l [] rfl)
def prpF:Bt->List Prp->Int
 |_,[]=>0
 |prev,x::r=>bif ((!(nmB x.name)) || (e0r x.name prev || seq x.name prev)) || (x.val.kind==0)then 6 else bif chk x.val 1 !=0 then chk x.val 1 else prpF x.name r
def prpE(l:List Prp):Int:=bif decide ((l.length:Int) >6)then 2 else prpF zb0 l
def b2k(p:List Prp):Bt:=v1j (p.map Prp.name)
theorem v0d(p:List Prp)(x:Prp):b2k (p++ [x])=x.name:=by unfold b2k;rw[List.map_append];exact o0f _ _
def prpB(n:Nat)(l:List Prp):Int->Prp->Unit->(Unit->Option Y5)->Option Y5:=λi x s rec=>(j0a n (x.name,())).bind λy=>bif !y.1 then some (6,())else
  bif decide (i>0)then(ix l (wI (i - 1))).bind λz=>bif (!(e0r z.name x.name)) || ((x.val.kind:Int)==0)then some (6,())else
   (j0k n ((Val.mk x.val.kind x.val.n x.val.s x.val.l),())).bind λy=>bif (y.1:Int) !=0 then some (y.1,())else rec s
  else bif (x.val.kind:Int)==0 then some (6,())else
   (j0k n ((Val.mk x.val.kind x.val.n x.val.s x.val.l),())).bind λy=>bif (y.1:Int) !=0 then some (y.1,())else rec s
theorem i1e(l:List Prp)(n:Nat)(hn:40<=n)(hl:l.length<=1000):∀(r p:List Prp),l=p++r->a0b (prpB n l) (λ_=>some (0,())) (p.length:Int) r ()=some (prpF (b2k p) r,())
 |[],_,_=>rfl
 |x::r,p,hp=>by
  have ih:=i1e l n hn hl r (p++ [x]) (by simp[hp]);rw[v0d]at ih;have e1:((p.length:Int)+1)=((p++ [x]).length:Int):=by simp
  rw[a0b,prpF,prpB,h0v x.name n (by omega),r2g,Val.eta,l0s x.val n hn,r2g,e1,ih];dsimp only;cases k7:nmB x.name with
  |false=>rfl
  |true=>
   simp only[s2l,u2k,s2q];rcases v0b p with rfl|⟨q,y,rfl⟩
   ·rw[show decide (((([]:List Prp).length:Nat):Int) >0)=false from rfl,u2k]
    rw[show b2k []=zb0 from rfl,z0k,o2j k7]
    simp only[s2q];cases x.val.kind==0
    ·simp only[u2k];cases chk x.val 1 !=0<;>rfl
    ·rfl
   ·have hq:l=q++y::(x::r):=by rw[hp];simp
    have e2:decide ((((q++ [y]).length:Nat):Int) >0)=true:=by simp
    have e3:wI (((q++ [y]).length:Int) - 1)=(q.length:Int):=by
     have:(q++ [y]).length=q.length+1:=by simp
     have h2:l.length=q.length+(r.length+2):=by rw[hq];simp
     rw[a0f (by omega) (by omega)];omega
    have e4:ix l (q.length:Int)=some y:=a0r (by rw[hq];simp);rw[e2,e3,e4,u2j,r2g,v0d,c0v];cases (e0r x.name y.name || seq x.name y.name) || (x.val.kind==0)
    ·simp only[u2k];cases chk x.val 1 !=0<;>rfl
    ·rfl
theorem i1c(l:List Prp)(n:Nat)(hn:40<=n):q94z n (l,())=some (prpE l,()):=by
 unfold q94z prpE;dsimp only;cases hb:decide ((l.length:Int) >6)with
 |true=>rfl
 |false=>
  have h4:=of_decide_eq_false hb;rw[u2k,u2k];exact(c0j l (λi (s:Unit)=>(l,l,(l.length:Int),i,())) _ (prpB n l) (λ_=>some (0,())) (λrec i s=>rfl) (by omega) n _ (by omega)).trans (i1e l n hn (by omega) l [] rfl)
theorem half{i j:Int}(h0:0<=i)(h1:0<=j)(h2:i+j<=4611686018427387904):wI (bshr .u64 (IntKind.wrap .u64 (wI (i+j))) 1)=(i+j) / 2:=by
 rw[a0f (x:=i+j) (by omega) (by omega),n0o (x:=i+j) (by omega) (by omega)];have:bshr .u64 (i+j) 1=(i+j) / 2:=by
  unfold bshr;rw[show(2:Int) ^ (min (1:Int).toNat IntKind.u64.bits)=2 from rfl,Int.fdiv_eq_ediv_of_nonneg _ (by omega)]
 rw[this,a0f (by omega) (by omega)]
def cmpI(a b:Int):Int:=bif decide (a<b)then -1 else bif decide (a>b)then 1 else 0
theorem k0f(a b:Int):q65z (a,b,())=some (cmpI a b,()):=by
 unfold q65z q79z cmpI;have:∀x:Int,(x !=x)=false:=λx=>by simp
 simp only[r2g,this,u2k];cases decide (a<b)<;>cases decide (a>b)<;>rfl
theorem c2y(a b:Int):decide (cmpI a b<0)=decide (a<b):=by
 unfold cmpI;by_cases h:a<b
 ·simp[h]
 ·by_cases h2:a>b<;>simp[h,h2]
theorem z0l(a b:Int):(cmpI a b==0)=decide (a=b):=by
 unfold cmpI;by_cases h:a<b
 ·simp[h];omega
 ·by_cases h2:a>b
  ·simp[h,h2];omega
  ·simp[h,h2];omega
def Rise{α:Type}(idf:α->Int)(l:List α):Prop:=l.Pairwise λx y=>idf x<idf y
theorem j1t{α τ ρ:Type}(l:List α)(idf:α->Int)(t:Int)(cmpf:α->Option Y5)(hc:∀x,cmpf x=some (cmpI (idf x) t,()))(enc:Int->Int->τ)(step:(τ->Option ρ)->τ->Option ρ)(kx:Int->Option ρ)
  (h:∀rec i j,step rec (enc i j)=bif decide (i<j)then(ix l (wI (bshr .u64 (IntKind.wrap .u64 (wI (i+j))) 1))).bind λx=>(cmpf x).bind λy=>bif decide (y.1<0)then rec (enc (wI ((wI (bshr .u64 (IntKind.wrap .u64 (wI (i+j))) 1))+1)) j)else rec (enc i (wI (bshr .u64 (IntKind.wrap .u64 (wI (i+j))) 1)))else kx i)
  (hr:Rise idf l)(hl:l.length<=1000000):
  ∀(fuel:Nat) (i j:Nat),i<=j->j<=l.length->j - i<fuel->(∀(q:Nat) x,l[q]?=some x->q<i->idf x<t)->(∀(q:Nat) x,l[q]?=some x->j<=q->t<=idf x)->
   ∃k:Nat,a0a step fuel (enc i j)=kx k/\k<=l.length/\(∀(q:Nat) x,l[q]?=some x->q<k->idf x<t)/\(∀(q:Nat) x,l[q]?=some x->k<=q->t<=idf x):=by
 intro fuel
 induction fuel with
 |zero=>intro i j _ _ hf;omega
 |succ m ih=>
  intro i j fY hj hf h1 h2;rw[a0a,h];by_cases aJ:i<j
  ·have e:decide ((i:Int)<(j:Int))=true:=by rw[decide_eq_true_iff];omega
   have hh:((i:Int)+(j:Int)) / 2=(((i+j) / 2:Nat):Int):=by omega
   rw[e,u2j,half (by omega) (by omega) (by omega),hh];have hq:(i+j) / 2<l.length:=by omega
   have e2:ix l (((i+j) / 2:Nat):Int)=some l[(i+j) / 2]:=a0r (r2k hq);rw[e2,r2g,hc,r2g];dsimp only;rw[c2y];have hp:=List.pairwise_iff_getElem.1 hr;by_cases hx:idf l[(i+j) / 2]<t
   ·rw[decide_eq_true hx,u2j,a0f (by omega) (by omega)]
    refine ih ((i+j) / 2+1) j (by omega) hj (by omega) (λq x mQ eD=>?_) h2;obtain⟨lj,rfl⟩:=r2p.1 mQ;by_cases kg:q=(i+j) / 2
    ·subst kg;exact hx
    ·have:=hp q ((i+j) / 2) lj hq (by omega)
     omega
   ·rw[decide_eq_false hx,u2k]
    refine ih i ((i+j) / 2) (by omega) (by omega) (by omega) h1 λq x mQ hle=>?_;obtain⟨lj,rfl⟩:=r2p.1 mQ;by_cases kg:q=(i+j) / 2
    ·subst kg;omega
    ·have:=hp ((i+j) / 2) q hq lj (by omega)
     omega
  ·have mJ:i=j:=by omega
   subst mJ;rw[decide_eq_false (by omega),u2k];exact⟨i,rfl,hj,h1,h2⟩
def Found{α:Type}(l:List α)(o:Option α)(k:Int):Prop:=(k= -1/\o=none)\/(0<=k/\∃x,ix l k=some x/\o=some x)
theorem Found.ge {α:Type}{l:List α}{o:Option α}{k:Int}(h:Found l o k):decide (k>=0)=o.isSome:=by
 rcases h with⟨rfl,rfl⟩| ⟨h,x,_,rfl⟩
 ·rfl
 ·simp;omega
theorem Found.lt {α:Type}{l:List α}{o:Option α}{k:Int}(h:Found l o k):decide (k<0)=o.isNone:=by
 rcases h with⟨rfl,rfl⟩| ⟨h,x,_,rfl⟩
 ·rfl
 ·simp;omega
theorem a1w{α:Type}{idf:α->Int}{l:List α}(hr:Rise idf l){x:α}{t:Int}(hx:x∈l)(he:idf x=t):l.find? (λy=>idf y==t)=some x:=by
 induction l with
 |nil=>cases hx
 |cons y r ih=>
  rw[List.find?_cons];have hp:=t2l.1 hr;rcases r2s.1 hx with rfl|hx
  ·simp[he]
  ·have:=hp.1 x hx
   have h0:(idf y==t)=false:=by simp;omega
   rw[h0];exact ih hp.2 hx
theorem q0d{α:Type}{idf:α->Int}{l:List α}{t:Int}(hr:Rise idf l){k:Nat}(hk:k<=l.length)(h1:∀(q:Nat) x,l[q]?=some x->q<k->idf x<t)(h2:∀(q:Nat) x,l[q]?=some x->k<=q->t<=idf x)(hx:∀x,l[k]?=some x->idf x≠t):
  l.find? (λy=>idf y==t)=none:=by
 rw[List.find?_eq_none];intro x hm hq;have hq:idf x=t:=by simpa using hq
 obtain⟨q,nS,rfl⟩:=List.getElem_of_mem hm;have fQ:=r2k nS;rcases Nat.lt_trichotomy q k with h|h|h
 ·have:=h1 q _ fQ h;omega
 ·subst h;exact hx _ fQ hq
 ·have eQ:k<l.length:=by omega
  have e1:=h2 k _ (r2k eQ) (r2q _);have:=List.pairwise_iff_getElem.1 hr k q eQ nS h;omega
def c0c(l:List Ev.Node)(t:Int):Option Ev.Node:=l.find? λy=>y.id==t
def c1l(l:List Edg)(t:Int):Option Edg:=l.find? λy=>y.id==t
theorem y0d(g:Graph)(t:Int)(n:Nat)(hr:Rise Ev.Node.id g.nodes)(hl:g.nodes.length<=40)(hn:50<=n):∃k,t0p n (g,t,())=some (k,())/\Found g.nodes (c0c g.nodes t) k:=by
 have hc:∀x:Ev.Node,q86z ((Ev.Node.mk x.id x.labels x.props),t,())=some (cmpI x.id t,()):=λx=>by
  unfold q86z;simp only[k0f,r2g]
 obtain⟨k,h1,h2,h3,h4⟩:=j1t (ρ:=Int×Bool×Unit) g.nodes Ev.Node.id t (λx=>q86z ((Ev.Node.mk x.id x.labels x.props),t,())) hc (λi j=>(g.nodes,t,(g.nodes.length:Int),i,j,()))
  (λrec=>s1w n rec (λ(v10,v11,v12,fi,_)=>
 (bif decide ((fi:Int)<v12)then
 (ix v10 fi).bind λx14=>
 (q86z ((Ev.Node.mk x14.id x14.labels x14.props),v11,())).bind λ(gF,_)=>some (fi,(gF:Int)==0,())
 else some (fi,false,()))) (λ(_)=>none)) (λi=>bif decide ((i:Int)<(g.nodes.length:Int))then
 (ix g.nodes i).bind λx14=>
 (q86z ((Ev.Node.mk x14.id x14.labels x14.props),t,())).bind λ(gF,_)=>some (i,(gF:Int)==0,())
 else some (i,false,())) (λrec i j=>rfl) hr (by omega) n 0 g.nodes.length (by omega) (by omega) (by omega) (λq x _ h=>absurd h (by omega)) (λq x h h' =>by
  obtain⟨h5,_⟩:=r2p.1 h;omega)
 have e0:q4z n (g.nodes,t,())=_:=h1;unfold t0p;dsimp only;rw[e0];by_cases hk:k<g.nodes.length
 ·have e2:ix g.nodes (k:Int)=some g.nodes[k]:=a0r (r2k hk)
  rw[decide_eq_true (by omega),u2j,e2,r2g,hc,r2g];dsimp only;rw[r2g,z0l];dsimp only;by_cases he:g.nodes[k].id=t
  ·rw[decide_eq_true he]
   exact⟨k,rfl,.inr ⟨by omega,_,e2,a1w hr (s2s hk) he⟩⟩
  ·rw[decide_eq_false he]
   refine⟨-1,rfl,.inl ⟨rfl,q0d hr h2 h3 h4 λx hx=>?_⟩⟩;rw[r2k hk]at hx;cases hx;exact he
 ·rw[decide_eq_false (by omega),u2k,r2g]
  refine⟨-1,rfl,.inl ⟨rfl,q0d hr h2 h3 h4 λx hx=>?_⟩⟩;obtain⟨h5,_⟩:=r2p.1 hx;omega
theorem l1e(g:Graph)(t:Int)(n:Nat)(hr:Rise Edg.id g.edges)(hl:g.edges.length<=60)(hn:70<=n):∃k,q72z n (g,t,())=some (k,())/\Found g.edges (c1l g.edges t) k:=by
 have hc:∀x:Edg,q64z ((Edg.mk x.id x.src x.dst x.type x.props),t,())=some (cmpI x.id t,()):=λx=>by
  unfold q64z;simp only[k0f,r2g]
 obtain⟨k,h1,h2,h3,h4⟩:=j1t (ρ:=Int×Bool×Unit) g.edges Edg.id t (λx=>q64z ((Edg.mk x.id x.src x.dst x.type x.props),t,())) hc (λi j=>(g.edges,t,(g.edges.length:Int),i,j,()))
  (λrec=>o1q n rec (λ(v10,v11,v12,fi,_)=>
 (bif decide ((fi:Int)<v12)then
 (ix v10 fi).bind λx14=>
 (q64z ((Edg.mk x14.id x14.src x14.dst x14.type x14.props),v11,())).bind λ(gF,_)=>some (fi,(gF:Int)==0,())
 else some (fi,false,()))) (λ(_)=>none)) (λi=>bif decide ((i:Int)<(g.edges.length:Int))then
 (ix g.edges i).bind λx14=>
 (q64z ((Edg.mk x14.id x14.src x14.dst x14.type x14.props),t,())).bind λ(gF,_)=>some (i,(gF:Int)==0,())
 else some (i,false,())) (λrec i j=>rfl) hr (by omega) n 0 g.edges.length (by omega) (by omega) (by omega) (λq x _ h=>absurd h (by omega)) (λq x h h' =>by
  obtain⟨h5,_⟩:=r2p.1 h;omega)
 have e0:q3z n (g.edges,t,())=_:=h1;unfold q72z;dsimp only;rw[e0];by_cases hk:k<g.edges.length
 ·have e2:ix g.edges (k:Int)=some g.edges[k]:=a0r (r2k hk)
  rw[decide_eq_true (by omega),u2j,e2,r2g,hc,r2g];dsimp only;rw[r2g,z0l];dsimp only;by_cases he:g.edges[k].id=t
  ·rw[decide_eq_true he]
   exact⟨k,rfl,.inr ⟨by omega,_,e2,a1w hr (s2s hk) he⟩⟩
  ·rw[decide_eq_false he]
   refine⟨-1,rfl,.inl ⟨rfl,q0d hr h2 h3 h4 λx hx=>?_⟩⟩;rw[r2k hk]at hx;cases hx;exact he
 ·rw[decide_eq_false (by omega),u2k,r2g]
  refine⟨-1,rfl,.inl ⟨rfl,q0d hr h2 h3 h4 λx hx=>?_⟩⟩;obtain⟨h5,_⟩:=r2p.1 hx;omega
def orE(a b:Int):Int:=bif a !=0 then a else b
theorem q2m(a b:Int)(n:Nat)(hn:5<=n):q62z n ([a,b],())=some (orE a b,()):=by
 obtain⟨m,rfl⟩:∃m,n=m+3:=⟨n - 3,by omega⟩;unfold q62z orE;dsimp only;rw[a0a];have h1:k0u (ρ:=Int×Unit) (m+3) (a0a (λjJ=>k0u (m+3) jJ (λx=>some (x.1,())) (λx=>some (x.1,()))) (m+2)) (λx=>some (x.1,())) (λx=>some (x.1,())) (0,[a,b],(([a,b]:List Int).length:Int),0,())=
  bif a !=0 then some (a,())else(a0a (λjJ=>k0u (m+3) jJ (λx=>some (x.1,())) (λx=>some (x.1,()))) (m+2)) (0,[a,b],(([a,b]:List Int).length:Int),1,()):=rfl
 refine h1.trans ?_;cases ha:a !=0
 ·rw[u2k,u2k,a0a]
  have h2:k0u (ρ:=Int×Unit) (m+3) (a0a (λjJ=>k0u (m+3) jJ (λx=>some (x.1,())) (λx=>some (x.1,()))) (m+1)) (λx=>some (x.1,())) (λx=>some (x.1,())) (0,[a,b],(([a,b]:List Int).length:Int),1,())=
   bif b !=0 then some (b,())else some (0,()):=rfl
  refine h2.trans ?_;cases hb:b !=0
  ·have:b=0:=by simpa using hb
   subst this;rfl
  ·rfl
 ·rfl
def nodF:Int->List Ev.Node->Int
 |_,[]=>0
 |last,x::r=>bif decide (x.id<=last)then 6 else bif orE (labE x.labels) (prpE x.props) !=0 then orE (labE x.labels) (prpE x.props)else nodF x.id r
def nodL:Int->List Ev.Node->Int
 |last,[]=>last
 |_,x::r=>nodL x.id r
def nodB(n:Nat){ρ:Type}(kr:Int×Unit->Option ρ):Int->Ev.Node->Int->(Int->Option ρ)->Option ρ:=λi x last rec=>bif decide ((x.id:Int)<=last)then kr (6,())else
 (q87z n (x.labels,())).bind λy8=>(q94z n (x.props,())).bind λy9=>(q62z n ([y8.1,y9.1],())).bind λy10=>bif (y10.1:Int) !=0 then kr (y10.1,())else rec x.id
theorem j1j(n:Nat)(hn:60<=n){ρ:Type}(kr:Int×Unit->Option ρ)(k:Int->Option ρ):∀(l:List Ev.Node) (i last:Int),a0b (nodB n kr) k i l last=bif nodF last l !=0 then kr (nodF last l,())else k (nodL last l)
 |[],_,_=>rfl
 |x::r,i,last=>by
  rw[a0b,nodF,nodL,nodB,w1a x.labels n (by omega),r2g,i1c x.props n (by omega),r2g,q2m _ _ n (by omega),r2g,j1j n hn kr k r (i+1) x.id];dsimp only;cases decide (x.id<=last)
  ·simp only[u2k]
   cases h:orE (labE x.labels) (prpE x.props) !=0
   ·simp only[u2k]
   ·simp only[u2j,h]
  ·rfl
theorem s0c:∀{l:List Ev.Node} {last:Int},nodF last l=0->(∀x∈l,last<x.id)/\Rise Ev.Node.id l/\last<=nodL last l
 |[],last,_=>⟨λx hx=>(by cases hx),List.Pairwise.nil,Int.le_refl _⟩
 |x::r,last,h=>by
  rw[nodF]at h;cases h1:decide (x.id<=last)with
  |true=>rw[h1]at h;cases h
  |false=>
   rw[h1,u2k]at h;have aJ:=of_decide_eq_false h1;cases h2:orE (labE x.labels) (prpE x.props) !=0 with
   |true=>rw[h2,u2j]at h;rw[h]at h2;cases h2
   |false=>
    rw[h2,u2k]at h;obtain⟨i1,i2,i3⟩:=s0c h;refine⟨λy hy=>?_,t2l.2 ⟨i1,i2⟩,?_⟩
    ·rcases r2s.1 hy with rfl|hy
     ·omega
     ·have:=i1 y hy;omega
    ·rw[nodL];omega
def edgF(nodes:List Ev.Node):Int->List Edg->Int
 |_,[]=>0
 |last,x::r=>bif decide (x.id<=last)then 6 else bif (c0c nodes x.id).isSome then 6 else bif !(nmB x.type)then 6 else bif (c0c nodes x.src).isNone then 5 else bif (c0c nodes x.dst).isNone then 5 else
  bif prpE x.props !=0 then prpE x.props else edgF nodes x.id r
def edgL:Int->List Edg->Int
 |last,[]=>last
 |_,x::r=>edgL x.id r
def topM:Int->List Edg->Int
 |top,[]=>top
 |top,x::r=>topM (if x.id>top then x.id else top) r
def edgB(n:Nat)(g:Graph){ρ:Type}(kr:Int×Unit->Option ρ):Int->Edg->Int->(Int->Option ρ)->Option ρ:=λi x last rec=>bif decide ((x.id:Int)<=last)then kr (6,())else
 (t0p n (g,x.id,())).bind λy21=>bif decide ((y21.1:Int) >=0)then kr (6,())else
 (j0a n (x.type,())).bind λy22=>bif !y22.1 then kr (6,())else
 (t0p n (g,x.src,())).bind λy23=>bif decide ((y23.1:Int)<0)then kr (5,())else
 (t0p n (g,x.dst,())).bind λy24=>bif decide ((y24.1:Int)<0)then kr (5,())else
 (q94z n (x.props,())).bind λy25=>bif (y25.1:Int) !=0 then kr (y25.1,())else rec x.id
theorem i1p(n:Nat)(hn:60<=n)(g:Graph)(hr:Rise Ev.Node.id g.nodes)(hl:g.nodes.length<=40){ρ:Type}(kr:Int×Unit->Option ρ)(k:Int->Option ρ):∀(l:List Edg) (i last:Int),a0b (edgB n g kr) k i l last=bif edgF g.nodes last l !=0 then kr (edgF g.nodes last l,())else k (edgL last l)
 |[],_,_=>rfl
 |x::r,i,last=>by
  obtain⟨k1,a1,b1⟩:=y0d g x.id n hr hl (by omega);obtain⟨k2,a2,b2⟩:=y0d g x.src n hr hl (by omega);obtain⟨k3,a3,b3⟩:=y0d g x.dst n hr hl (by omega);rw[a0b,edgF,edgL,edgB,a1,r2g,a2,r2g,a3,r2g,i1c x.props n (by omega),r2g,h0v x.type n (by omega),r2g,i1p n hn g hr hl kr k r (i+1) x.id];dsimp only;rw[b1.ge,b2.lt,b3.lt];cases decide (x.id<=last)
  ·cases (c0c g.nodes x.id).isSome
   ·cases !(nmB x.type)
    ·cases (c0c g.nodes x.src).isNone
     ·cases (c0c g.nodes x.dst).isNone
      ·simp only[u2k]
       cases h:prpE x.props !=0
       ·simp only[u2k]
       ·simp only[u2j,h]
      ·rfl
     ·rfl
    ·rfl
   ·rfl
  ·rfl
theorem c1x{nodes:List Ev.Node}:∀{l:List Edg} {last:Int},edgF nodes last l=0->(∀x∈l,last<x.id)/\Rise Edg.id l/\∀top,topM (if last>top then last else top) l=(if edgL last l>top then edgL last l else top)
 |[],last,_=>⟨λx hx=>(by cases hx),List.Pairwise.nil,λtop=>rfl⟩
 |x::r,last,h=>by
  rw[edgF]at h;cases h1:decide (x.id<=last)with
  |true=>rw[h1]at h;cases h
  |false=>
   rw[h1,u2k]at h;have aJ:=of_decide_eq_false h1;have h0:edgF nodes x.id r=0:=by
    cases h2:(c0c nodes x.id).isSome with
    |true=>rw[h2]at h;cases h
    |false=>
     cases h3: !(nmB x.type)with
     |true=>rw[h2,h3]at h;cases h
     |false=>
      cases h4:(c0c nodes x.src).isNone with
      |true=>rw[h2,h3,h4]at h;cases h
      |false=>
       cases h5:(c0c nodes x.dst).isNone with
       |true=>rw[h2,h3,h4,h5]at h;cases h
       |false=>
        rw[h2,h3,h4,h5]at h;simp only[u2k]at h;cases h6:prpE x.props !=0 with
        |true=>rw[h6,u2j]at h;rw[h]at h6;cases h6
        |false=>rw[h6]at h;exact h
   obtain⟨i1,i2,i3⟩:=c1x h0;refine⟨λy hy=>?_,t2l.2 ⟨i1,i2⟩,λtop=>?_⟩
   ·rcases r2s.1 hy with rfl|hy
    ·omega
    ·have:=i1 y hy;omega
   ·rw[topM,edgL, <-i3 top]
    congr 1;rcases Int.lt_or_le top last with h9|h9
    ·have e:(if last>top then last else top)=last:=if_pos h9
     rw[e,if_pos (show x.id>last by omega),if_pos (show x.id>top by omega)]
    ·have e:(if last>top then last else top)=top:=if_neg (by omega)
     rw[e]
def maxI(a b:Int):Int:=if a>b then a else b
def chkG(g:Graph):Int:=bif (decide ((g.nodes.length:Int) >40)) || (decide ((g.edges.length:Int) >60))then 2 else bif nodF 0 g.nodes !=0 then nodF 0 g.nodes else bif edgF g.nodes 0 g.edges !=0 then edgF g.nodes 0 g.edges else
 bif (decide ((g.next:Int)<=maxI (edgL 0 g.edges) (nodL 0 g.nodes))) || (decide ((g.next:Int) >1099511627776))then 9 else 0
theorem r0j(g:Graph)(n:Nat)(hn:80<=n):q93z n (g,())=some (chkG g,()):=by
 unfold q93z chkG;dsimp only;cases hb:(decide ((g.nodes.length:Int) >40)) || (decide ((g.edges.length:Int) >60))with
 |true=>rfl
 |false=>
  have h1:=of_decide_eq_false (r2x.1 hb).1;have h2:=of_decide_eq_false (r2x.1 hb).2;rw[u2k,u2k];refine(c0j g.nodes (λi (s:Int)=>(s,g.nodes,(g.nodes.length:Int),i,(g,()),())) _ (nodB n (λx=>some (x.1,()))) _ (λrec i s=>rfl) (by omega) n 0 (by omega)).trans ?_;rw[j1j n (by omega)];cases h3:nodF 0 g.nodes !=0 with
  |true=>rfl
  |false=>
   have dM:nodF 0 g.nodes=0:=by simpa using h3
   rw[u2k,u2k];refine(c0j g.edges (λi (s:Int)=>(s,nodL 0 g.nodes,g.edges,(g.edges.length:Int),i,(g,()),())) _ (edgB n g (λx=>some (x.1,()))) _ (λrec i s=>rfl) (by omega) n 0 (by omega)).trans ?_;rw[i1p n (by omega) g (s0c dM).2.1 (by omega)];cases h4:edgF g.nodes 0 g.edges !=0 with
   |true=>rfl
   |false=>
    rw[u2k,u2k];dsimp only;unfold maxI;cases (decide ((g.next:Int)<=if edgL 0 g.edges>nodL 0 g.nodes then edgL 0 g.edges else nodL 0 g.nodes)) || (decide ((g.next:Int) >1099511627776))<;>rfl
theorem e0c{n b:Nat}(h:n<=1000)(hb:b<=1000):room n b=true:=by
 unfold room;rw[r2i];exact⟨r2y (by omega),r2y (by have:n*b<=1000*1000:=Nat.mul_le_mul h hb;omega)⟩
theorem d1h{ρ:Type}(self:Val×Unit->Option Y6)(k:List Val->Option ρ):∀(r p:List Val) (i:Int),(∀x∈r,self (x,())=some (x,()))->p.length+r.length<=30->
  a0b (λ(i:Int) (x:Val) (s:List Val) (rec:List Val->Option ρ)=>(self (x,())).bind λy=>ck (room (s++([y.1]:List Val)).length 56) (rec (s++([y.1]:List Val)))) k i r p=k (p++r)
 |[],p,i,_,_=>by simp[a0b]
 |x::r,p,i,h,hl=>by
  rw[a0b,h x (by simp),r2g];dsimp only;rw[b0v (e0c (by simp at hl⊢;omega) (by omega)),d1h self k r (p++ [x]) (i+1) (λy hy=>h y (by simp[hy])) (by simp at hl⊢;omega)];simp
theorem s0k(v:Val):∀(d:Int) (n:Nat),1<=d->d<=7->40<=n+d.toNat->chk v d=0->i0j n (v,())=some (v,()):=by
 induction v using f0t with
 |_ k a s l ih=>
  intro d n h1 h2 h3 hc;obtain⟨m,rfl⟩:∃m,n=m+1:=⟨n - 1,by omega⟩;have key:l.length<=30->(∀x∈l,i0j m (x,())=some (x,()))->i0j (m+1) (.mk k a s l,())=some (.mk k a s l,()):=by
   intro hl hs;rw[i0j];unfold e1h;dsimp+instances only[b0e,n_mk,s_mk,l_mk];refine(c0j l (λi (s0:List Val)=>(l,(l.length:Int),i,(k,a,s,()),((Val.mk 0 0 zb0 ([]:List Val)),()),s0,())) _ (λ(i:Int) (x:Val) (s:List Val) rec=>(i0j m (x,())).bind λy=>ck (room (s++([y.1]:List Val)).length 56) (rec (s++([y.1]:List Val)))) (λs0=>some (.mk k a s s0,()))
    (λrec i s=>by simp only[y0z,Val.eta]) (by omega) m [] (by omega)).trans ?_
   rw[d1h _ _ l [] 0 hs (by simpa using hl)];rfl
  rw[chk]at hc;have nil:∀{x:Bool},fin6 (x&& ((l.length:Int)==0))=0->l=[]:=λ{x} h=>by
   have:=t0x h;rw[r2i]at this;simpa using this.2
  have key0:l=[]->i0j (m+1) (.mk k a s l,())=some (.mk k a s l,()):=λh=>key (by rw[h];simp) (by rw[h];intro x hx;cases hx);cases h0:k==0
  ·rw[h0]at hc
   cases h1:k==1
   ·rw[h1]at hc
    cases h2:k==2
    ·rw[h2]at hc
     cases h3:k==3
     ·rw[h3]at hc
      cases h4:k==4
      ·rw[h4]at hc;cases hc
      ·rw[h4]at hc
       simp only[u2k,u2j]at hc;cases hb:decide ((l.length:Int) >30) || decide (d>6)
       ·rw[hb]at hc
        have hb2:=r2x.1 hb;have dM:=of_decide_eq_false hb2.1;have h6:=of_decide_eq_false hb2.2;simp only[u2k]at hc;cases gj:chks l (d+1) !=0
        ·have fA:chks l (d+1)=0:=by simpa using gj
         exact key (by omega) λx hx=>ih x hx (d+1) m (by omega) (by omega) (by omega) (s1m fA x hx)
        ·rw[gj]at hc
         have h0:chks l (d+1)=0:=hc;simp[h0]at gj
       ·rw[hb]at hc;cases hc
     ·rw[h3]at hc
      simp only[u2k,u2j]at hc;cases hb:decide ((s.size:Int) >4000)
      ·rw[hb]at hc
       simp only[u2k]at hc;cases ha:a==0
       ·rw[ha]at hc;cases hc
       ·rw[ha]at hc
        exact key0 (nil hc)
      ·rw[hb]at hc;cases hc
    ·rw[h2]at hc
     exact key0 (nil hc)
   ·rw[h1]at hc
    exact key0 (nil hc)
  ·rw[h0]at hc
   exact key0 (nil hc)
theorem d2v:∀{l:List Prp} {prev:Bt},prpF prev l=0->∀x∈l,chk x.val 1=0
 |[],_,_=>λx hx=>(by cases hx)
 |y::r,prev,h=>by
  rw[prpF]at h;cases h1:((!(nmB y.name)) || (e0r y.name prev || seq y.name prev)) || (y.val.kind==0)with
  |true=>rw[h1]at h;cases h
  |false=>
   rw[h1,u2k]at h;cases h2:chk y.val 1 !=0 with
   |true=>rw[h2,u2j]at h;rw[h]at h2;cases h2
   |false=>
    rw[h2]at h;have h0:chk y.val 1=0:=by simpa using h2
    intro x hx;rcases r2s.1 hx with rfl|hx
    ·exact h0
    ·exact d2v h x hx
theorem d2d{l:List Prp}(h:prpE l=0):l.length<=6/\∀x∈l,chk x.val 1=0:=by
 unfold prpE at h;cases h1:decide ((l.length:Int) >6)with
 |true=>rw[h1]at h;cases h
 |false=>
  rw[h1]at h;have:=of_decide_eq_false h1;exact⟨by omega,d2v h⟩
theorem k1x:∀{l:List Ev.Node} {last:Int},nodF last l=0->∀x∈l,labE x.labels=0/\prpE x.props=0
 |[],_,_=>λx hx=>(by cases hx)
 |y::r,last,h=>by
  rw[nodF]at h;cases h1:decide (y.id<=last)with
  |true=>rw[h1]at h;cases h
  |false=>
   rw[h1,u2k]at h;cases h2:orE (labE y.labels) (prpE y.props) !=0 with
   |true=>rw[h2,u2j]at h;rw[h]at h2;cases h2
   |false=>
    rw[h2]at h;have h0:orE (labE y.labels) (prpE y.props)=0:=by simpa using h2
    unfold orE at h0;intro x hx;rcases r2s.1 hx with rfl|hx
    ·cases h3:labE x.labels !=0 with
     |true=>rw[h3,u2j]at h0;rw[h0]at h3;cases h3
     |false=>rw[h3]at h0;exact⟨by simpa using h3,h0⟩
    ·exact k1x h x hx
theorem k1m{nodes:List Ev.Node}:∀{l:List Edg} {last:Int},edgF nodes last l=0->∀x∈l,prpE x.props=0/\(c0c nodes x.id).isSome=false/\(c0c nodes x.src).isNone=false/\(c0c nodes x.dst).isNone=false
 |[],_,_=>λx hx=>(by cases hx)
 |y::r,last,h=>by
  rw[edgF]at h;cases h1:decide (y.id<=last)with
  |true=>rw[h1]at h;cases h
  |false=>
   cases h2:(c0c nodes y.id).isSome with
   |true=>rw[h1,h2]at h;cases h
   |false=>
    cases h3: !(nmB y.type)with
    |true=>rw[h1,h2,h3]at h;cases h
    |false=>
     cases h4:(c0c nodes y.src).isNone with
     |true=>rw[h1,h2,h3,h4]at h;cases h
     |false=>
      cases h5:(c0c nodes y.dst).isNone with
      |true=>rw[h1,h2,h3,h4,h5]at h;cases h
      |false=>
       rw[h1,h2,h3,h4,h5]at h;simp only[u2k]at h;cases h6:prpE y.props !=0 with
       |true=>rw[h6,u2j]at h;rw[h]at h6;cases h6
       |false=>
        rw[h6]at h;intro x hx;rcases r2s.1 hx with rfl|hx
        ·exact⟨by simpa using h6,h2,h4,h5⟩
        ·exact k1m h x hx
theorem i0a{g:Graph}(h:chkG g=0):g.nodes.length<=40/\g.edges.length<=60/\nodF 0 g.nodes=0/\edgF g.nodes 0 g.edges=0:=by
 unfold chkG at h;cases hb:(decide ((g.nodes.length:Int) >40)) || (decide ((g.edges.length:Int) >60))with
 |true=>rw[hb]at h;cases h
 |false=>
  have h1:=of_decide_eq_false (r2x.1 hb).1;have h2:=of_decide_eq_false (r2x.1 hb).2;rw[hb,u2k]at h;cases h3:nodF 0 g.nodes !=0 with
  |true=>rw[h3,u2j]at h;rw[h]at h3;cases h3
  |false=>
   rw[h3,u2k]at h;cases h4:edgF g.nodes 0 g.edges !=0 with
   |true=>rw[h4,u2j]at h;rw[h]at h4;cases h4
   |false=>exact⟨by omega,by omega,by simpa using h3,by simpa using h4⟩
def v1r:Val:=.mk 0 0 zb0 []
def k0n:List Prp->Bt->Val
 |[],_=>v1r
 |x::r,s=>bif seq x.name s then x.val else k0n r s
theorem u0r(s:Bt):∀l:List Prp,k0n l s=v1r\/∃x∈l,k0n l s=x.val
 |[]=>.inl rfl
 |x::r=>by
  rw[k0n];cases seq x.name s
  ·rcases u0r s r with h|⟨y,h1,h2⟩
   ·exact .inl h
   ·exact .inr ⟨y,by simp[h1],h2⟩
  ·exact .inr ⟨x,by simp,rfl⟩
theorem k1b(n:Nat)(hn:40<=n)(s:Bt)(k:Unit->Option Y6)(hk:k ()=some (v1r,())):∀(l:List Prp) (i:Int),(∀x∈l,chk x.val 1=0)->a0b (λ(i:Int) (x:Prp) (u:Unit) (rec:Unit->Option Y6)=>bif seq x.name s then(i0j n (x.val,())).bind λy=>some (y.1,())else rec u) k i l ()=some (k0n l s,())
 |[],i,_=>hk
 |x::r,i,h=>by
  rw[a0b,k0n,s0k x.val 1 n (by omega) (by omega) (by omega) (h x (by simp)),r2g,k1b n hn s k hk r (i+1) λy hy=>h y (by simp[hy])];cases seq x.name s<;>rfl
theorem e2o(l:List Prp)(s:Bt)(n:Nat)(hn:40<=n)(hl:l.length<=6)(h:∀x∈l,chk x.val 1=0):j0s n (l,s,())=some (k0n l s,()):=by
 unfold j0s;exact(c0j l (λi (u:Unit)=>(s,l,(l.length:Int),i,(v1r,()),())) _ (λ(i:Int) (x:Prp) (u:Unit) (rec:Unit->Option Y6)=>bif seq x.name s then(i0j n (x.val,())).bind λy=>some (y.1,())else rec u) (λ_=>some (v1r,()))
  (λrec i u=>by simp only[i0y,Val.eta];rfl) (by omega) n () (by omega)).trans (k1b n hn s _ rfl l 0 h)
theorem l1x{l:List Ev.Node}{t:Int}{x:Ev.Node}(h:c0c l t=some x):x∈l:=List.mem_of_find?_eq_some h
theorem u0a{l:List Edg}{t:Int}{x:Edg}(h:c1l l t=some x):x∈l:=List.mem_of_find?_eq_some h
def hasL(l:List Bt)(s:Bt):Bool:=l.any λx=>seq s x
theorem u0i(s:Bt)(k:Unit->Option Y5)(hk:k ()=some (-1,())):∀(l:List Bt) (i:Int),0<=i->∃j,a0b (λ(i:Int) (x:Bt) (u:Unit) (rec:Unit->Option Y5)=>bif seq s x then some (i,())else rec u) k i l ()=some (j,())/\decide (j>=0)=hasL l s
 |[],i,_=>⟨-1,hk,rfl⟩
 |x::r,i,hi=>by
  obtain⟨j,h1,h2⟩:=u0i s k hk r (i+1) (by omega);rw[a0b,h1];unfold hasL at h2⊢;rw[List.any_cons];cases seq s x
  ·exact⟨j,rfl,by rw[h2];rfl⟩
  ·exact⟨i,rfl,by simpa using hi⟩
end Pure

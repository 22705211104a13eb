import Derived.Test.YtcloicgnanjbcaaGreatDoorPCode
import Derived.Test.YtcloicgnanjbcaaGreatDoorPLib
import Derived.Test.YtcloicgnanjbcaaGreatDoorEvRead6
import Derived.Test.YtcloicgnanjbcaaGreatDoorPRange
import Derived.KernelRfl
noncomputable section
namespace Pure
open Esp Ev Go
set_option linter.unusedSimpArgs false
set_option linter.unusedVariables false
theorem Val.eta(v:Val):Val.mk v.kind v.n v.s v.l=v:=by cases v;rfl
theorem c0g(k n:Int)(s:ByteArray)(l:List Val):(Val.mk k n s l).kind=k:=rfl
theorem n_mk(k n:Int)(s:ByteArray)(l:List Val):(Val.mk k n s l).n=n:=rfl
theorem s_mk(k n:Int)(s:ByteArray)(l:List Val):(Val.mk k n s l).s=s:=rfl
theorem l_mk(k n:Int)(s:ByteArray)(l:List Val):(Val.mk k n s l).l=l:=rfl
mutual
theorem j0e{p:Val→Prop}(h: ∀k n s l,(∀x∈l,p x)→p (.mk k n s l)): ∀v,p v
 | .mk k n s l=>h k n s l (j1l h l)
theorem j1l{p:Val→Prop}(h: ∀k n s l,(∀x∈l,p x)→p (.mk k n s l)): ∀l:List Val,∀x∈l,p x
 | []=>fun _ hx=>by cases hx
 | y::r=>List.forall_mem_cons.2 ⟨j0e h y,j1l h r⟩
end
theorem b0e(a b:ByteArray):seq a b=true↔a=b:=by
 unfold seq
 constructor
 ·intro h
  have h2:=eq_of_beq h
  rw [ByteArray.toList_eq,ByteArray.toList_eq]at h2
  cases a;cases b
  congr 1
  exact Array.toList_inj.1 h2
 ·rintro rfl
  exact beq_self_eq_true _
theorem e0b(a:ByteArray):seq a a=true:=(b0e a a).2 rfl
def fin6(b:Bool):Int:=bif b then 0 else 6
mutual
def chk:Val→Int→Int
 | .mk k n s l,d=>
  bif k==0 then fin6 (((n==0)&&seq s ⟨#[]⟩)&& ((l.length:Int)==0))
  else bif k==1 then fin6 ((((n==0) || (n==1))&&seq s ⟨#[]⟩)&& ((l.length:Int)==0))
  else bif k==2 then fin6 (seq s ⟨#[]⟩&& ((l.length:Int)==0))
  else bif k==3 then(bif decide ((s.size:Int) >4000)then 2 else bif n==0 then fin6 (n0p s&& ((l.length:Int)==0))else 6)
  else bif k==4 then(bif decide ((l.length:Int) >30) || decide (d>6)then 2 else bif chks l (d+1) !=0 then chks l (d+1)else fin6 ((n==0)&&seq s ⟨#[]⟩))
  else 6
def chks:List Val→Int→Int
 | [],_=>0
 | x::r,d=>bif chk x d !=0 then chk x d else chks r d
end
theorem h1b{s:ByteArray}(h:(s.size:Int)≤4000):u0q (s,())=some (n0p s,()):=by
 unfold u0q
 show(bif Nat.ble s.size 9223372036854775807 then some (n0p s,())else none)=_
 rw [Nat.ble_eq_true_of_le (by omega)]
 rfl
theorem n1h{ρ:Type}(self:Val×Int×Unit→Option (Int×Unit))(n:Nat)(l:List Val)(d:Int)(hd:IntKind.wrap .i64 (d+1)=d+1)(hs: ∀x∈l,self (x,d+1,())=some (chk x (d+1),()))(hl:l.length≤30)(o:Val)
  (kx:(Val×Unit)×Unit→Option ρ)(kr:Int×Unit→Option ρ):
  ∀(r p:List Val),l=p++r→∀fuel,r.length<fuel→a0k (fun rc=>j0d self n rc kx kr) fuel (d,l,(l.length:Int),(p.length:Int),(o,()),())=bif chks r (d+1) !=0 then kr (chks r (d+1),())else kx ((o,()),()):=by
 intro r
 induction r with
 | nil=>
  intro p hp fuel hf
  obtain⟨m,rfl⟩: ∃m,fuel=m+1:=⟨fuel - 1,by omega⟩
  have e:decide ((p.length:Int)< (l.length:Int))=false:=by rw [decide_eq_false_iff_not];subst hp;simp
  simp only [a0k,j0d,Val.eta,e,cond_false,chks]
  rfl
 | cons x r ih=>
  intro p hp fuel hf
  obtain⟨m,rfl⟩: ∃m,fuel=m+1:=⟨fuel - 1,by omega⟩
  have hlen:l.length=p.length+(r.length+1):=by rw [hp];simp
  have e:decide ((p.length:Int)< (l.length:Int))=true:=by rw [decide_eq_true_iff];omega
  have e2:ix l (p.length:Int)=some x:=a0z (by rw [hp];simp)
  have e3:IntKind.wrap .i64 ((p.length:Int)+1)=((p++ [x]).length:Int):=by rw [b0i (by omega) (by omega)];simp
  have e4:=hs x (by rw [hp];simp)
  have e5:=ih (p++ [x]) (by simp [hp]) m (by simp at hf;omega)
  rw [a0k]
  simp only [j0d,Val.eta,e,e2,e3,hd,e4,cond_true,Option.bind_some,e5]
  rw [chks]
  cases hc:chk x (d+1) !=0<;>simp [hc]
theorem c2u(v:Val): ∀(d:Int) (n:Nat),1≤d→d≤7→40≤n+d.toNat→q55z n (v,d,())=some (chk v d,()):=by
 induction v using j0e with
 | _ k a s l ih=>
  intro d n h1 h2 h3
  obtain⟨m,rfl⟩: ∃m,n=m+1:=⟨n - 1,by omega⟩
  simp only [q55z,k1t,chk,Val.eta]
  dsimp+instances only [c0g,n_mk,s_mk,l_mk]
  cases k==0
  ·cases k==1
   ·cases k==2
    ·cases k==3
     ·cases k==4
      ·rfl
      ·simp only [cond_false,cond_true]
       cases hb:decide ((l.length:Int) >30) || decide (d>6)
       ·have hb2:=Bool.or_eq_false_iff.1 hb
        have h30:=of_decide_eq_false hb2.1
        have h6:=of_decide_eq_false hb2.2
        have hw:IntKind.wrap .i64 (d+1)=d+1:=b0i (by omega) (by omega)
        simp only [cond_false,Val.eta]
        have:=n1h (ρ:=Int×Unit) (q55z m) m l d hw (fun x hx=>ih x hx (d+1) m (by omega) (by omega) (by omega)) (by omega) (.mk k a s l)
         (fun(o11,_)=>(bif !(((o11.1.n:Int)==0)&& (seq o11.1.s (⟨#[]⟩:ByteArray)))then some (6,())else some (0,()))) (fun x=>some ((x.1:Int),())) l [] rfl m (by omega)
        refine this.trans ?_
        cases chks l (d+1) !=0
        ·simp only [cond_false,c0g,n_mk,s_mk,l_mk]
         cases (a==0)&&seq s ⟨#[]⟩<;>rfl
        ·rfl
       ·rfl
     ·simp only [cond_false,cond_true]
      cases hb:decide ((s.size:Int) >4000)
      ·have:=of_decide_eq_false hb
       simp only [cond_false]
       cases a==0
       ·rfl
       ·simp only [cond_true,h1b (s:=s) (by omega),Option.bind_some]
        cases n0p s&& ((l.length:Int)==0)<;>rfl
      ·rfl
    ·simp only [cond_false,cond_true]
     cases seq s ⟨#[]⟩&& ((l.length:Int)==0)<;>rfl
   ·simp only [cond_false,cond_true]
    cases ((a==0) || (a==1))&&seq s ⟨#[]⟩&& ((l.length:Int)==0)<;>rfl
  ·simp only [cond_true]
   cases (a==0)&&seq s ⟨#[]⟩&& ((l.length:Int)==0)<;>rfl
theorem o0z(v:Val)(n:Nat)(h:40≤n):q53z n (v,())=some (chk v 1,()):=by
 simp only [q53z,Val.eta,c2u v 1 n (by omega) (by omega) (by omega),Option.bind_some]
inductive Right:Val→Int→Prop
 | null (d:Int):Right (.mk 0 0 ⟨#[]⟩ []) d
 | truth (n:Int) (d:Int):n=0∨n=1→Right (.mk 1 n ⟨#[]⟩ []) d
 | int (n:Int) (d:Int):wfI .i64 n→Right (.mk 2 n ⟨#[]⟩ []) d
 | text (s:ByteArray) (d:Int):s.size≤4000→n0p s=true→Right (.mk 3 0 s []) d
 | list (l:List Val) (d:Int):l.length≤30→d≤6→(∀x∈l,Right x (d+1))→Right (.mk 4 0 ⟨#[]⟩ l) d
theorem u0i{b:Bool}(h:fin6 b=0):b=true:=by cases b<;>first | rfl | (unfold fin6 at h;simp at h)
theorem j2c{l:List Val}{d:Int}(h:chks l d=0): ∀x∈l,chk x d=0:=by
 induction l with
 | nil=>intro x hx;cases hx
 | cons y r ih=>
  rw [chks]at h
  cases hc:chk y d !=0
  ·rw [hc]at h
   have hc0:chk y d=0:=by simpa using hc
   intro x hx
   rcases List.mem_cons.1 hx with rfl | hx
   ·exact hc0
   ·exact ih h x hx
  ·rw [hc]at h
   have h0:chk y d=0:=h
   simp [h0]at hc
theorem o0o(v:Val): ∀d,vOk v→chk v d=0→Right v d:=by
 induction v using j0e with
 | _ k a s l ih=>
  intro d hv h
  rw [vOk,c0w]at hv
  have hlen: ∀{x:Bool},(x&& ((l.length:Int)==0))=true→x=true∧l= []:=fun h=>by
   rw [Bool.and_eq_true]at h
   exact⟨h.1,by have:=h.2;simpa using this⟩
  rw [chk]at h
  cases h0:k==0
  ·rw [h0]at h
   cases h1:k==1
   ·rw [h1]at h
    cases h2:k==2
    ·rw [h2]at h
     cases h3:k==3
     ·rw [h3]at h
      cases h4:k==4
      ·rw [h4]at h;cases h
      ·rw [h4]at h
       have hk:k=4:=by simpa using h4
       subst hk
       simp only [cond_false,cond_true]at h
       cases hb:decide ((l.length:Int) >30) || decide (d>6)
       ·rw [hb]at h
        have hb2:=Bool.or_eq_false_iff.1 hb
        have h30:=of_decide_eq_false hb2.1
        have h6:=of_decide_eq_false hb2.2
        simp only [cond_false]at h
        cases hc:chks l (d+1) !=0
        ·rw [hc]at h
         have hc0:chks l (d+1)=0:=by simpa using hc
         have h7:=u0i h
         rw [Bool.and_eq_true,b0e]at h7
         obtain⟨h8,rfl⟩:=h7
         have:a=0:=by simpa using h8
         subst this
         exact .list l d (by omega) (by omega) fun x hx=>ih x hx (d+1) (hv.2.2.2.2 x hx) (j2c hc0 x hx)
        ·rw [hc]at h
         have h0:chks l (d+1)=0:=h
         simp [h0]at hc
       ·rw [hb]at h;cases h
     ·rw [h3]at h
      have hk:k=3:=by simpa using h3
      subst hk
      simp only [cond_false,cond_true]at h
      cases hb:decide ((s.size:Int) >4000)
      ·rw [hb]at h
       have h40:=of_decide_eq_false hb
       simp only [cond_false]at h
       cases ha:a==0
       ·rw [ha]at h;cases h
       ·rw [ha]at h
        obtain⟨h5,rfl⟩:=hlen (u0i h)
        have:a=0:=by simpa using ha
        subst this
        exact .text s d (by omega) h5
      ·rw [hb]at h;cases h
    ·rw [h2]at h
     have hk:k=2:=by simpa using h2
     subst hk
     obtain⟨h5,rfl⟩:=hlen (u0i h)
     obtain rfl:=(b0e _ _).1 h5
     exact .int a d hv.2.1
   ·rw [h1]at h
    have hk:k=1:=by simpa using h1
    subst hk
    obtain⟨h5,rfl⟩:=hlen (u0i h)
    rw [Bool.and_eq_true,b0e]at h5
    obtain⟨h6,rfl⟩:=h5
    exact .truth a d (by simpa using h6)
  ·rw [h0]at h
   have hk:k=0:=by simpa using h0
   subst hk
   obtain⟨h5,rfl⟩:=hlen (u0i h)
   rw [Bool.and_eq_true,b0e]at h5
   obtain⟨h6,rfl⟩:=h5
   have:a=0:=by simpa using h6
   subst this
   exact .null d
end Pure
namespace Pure
open Esp Ev Go
set_option linter.unusedSimpArgs false
set_option linter.unusedVariables false
end Pure
namespace Pure
open Esp Ev Go
set_option linter.unusedSimpArgs false
set_option linter.unusedVariables false
def lttI(c:Int):Bool:=(((decide (c≥97))&& (decide (c≤122))) || ((decide (c≥65))&& (decide (c≤90)))) || (c==95)
def nmF:Int→List Int→Bool
 | _, []=>true
 | i,c::r=>bif !(lttI c)&& (((i==0) || (decide (c<48))) || (decide (c>57)))then false else nmF (i+1) r
def nmB(s:ByteArray):Bool:=bif (seq s ⟨#[]⟩) || (decide ((s.size:Int) >12))then false else nmF 0 (bi s.data.toList)
theorem r1e: ∀(l:List Int) (i:Int),a0i (fun i c (s:Unit) (rec:Unit→Option (Bool×Unit))=>bif !(lttI c)&& (((i==0) || (decide (c<48))) || (decide (c>57)))then some (false,())else rec s) (fun _=>some (true,())) i l ()=some (nmF i l,())
 | [],i=>rfl
 | c::r,i=>by
  rw [a0i,nmF]
  cases !(lttI c)&& (((i==0) || (decide (c<48))) || (decide (c>57)))
  ·simp only [cond_false];exact r1e r (i+1)
  ·rfl
theorem h0x(s:ByteArray)(n:Nat)(hn:20≤n):q60z n (s,())=some (nmB s,()):=by
 unfold q60z nmB
 dsimp only
 cases hb:(seq s ⟨#[]⟩) || (decide ((s.size:Int) >12))with
 | true=>rfl
 | false=>
  have h12:=of_decide_eq_false (Bool.or_eq_false_iff.1 hb).2
  rw [cond_false,cond_false]
  exact(a1t s (fun i (_:Unit)=>(s,(s.size:Int),i,())) _ (fun i c s rec=>bif !(lttI c)&& (((i==0) || (decide (c<48))) || (decide (c>57)))then some (false,())else rec s) (fun _=>some (true,()))
   (fun rec i s=>rfl) (by omega) n () (by omega)).trans (r1e _ 0)
theorem n2j(a b:UInt8):(decide (a<b))=decide (a.toNat<b.toNat):=by
 by_cases h:a<b
 ·rw [decide_eq_true h,decide_eq_true (UInt8.lt_iff_toNat_lt.1 h)]
 ·rw [decide_eq_false h,decide_eq_false fun h2=>h (UInt8.lt_iff_toNat_lt.2 h2)]
theorem t2y(a b:UInt8):(a==b)=decide (a.toNat=b.toNat):=by
 by_cases h:a=b
 ·subst h;simp
 ·have: ¬a.toNat=b.toNat:=fun h2=>h (UInt8.toNat_inj.1 h2)
  simp [h,this]
theorem u0j: ∀x y:List UInt8,(!(Op.bytesLess y x))=(Op.bytesLess x y || x==y)
 | [], []=>rfl
 | [],b::y=>rfl
 | a::x, []=>rfl
 | a::x,b::y=>by
  have ih:=u0j x y
  rw [Op.bytesLess,Op.bytesLess,List.cons_beq_cons,n2j,n2j,t2y,t2y]
  rcases Nat.lt_trichotomy a.toNat b.toNat with h | h | h
  ·simp [h,show ¬b.toNat<a.toNat by omega,show ¬b.toNat=a.toNat by omega]
  ·simp only [h,Nat.lt_irrefl,decide_false,Bool.false_or,decide_true,Bool.true_and]
   exact ih
  ·simp [h,show ¬a.toNat<b.toNat by omega,show ¬a.toNat=b.toNat by omega]
theorem j0u(x y:ByteArray):(!(f0r y x))=(f0r x y || seq x y):=u0j _ _
theorem a1s(x:ByteArray):f0r x ⟨#[]⟩=false:=by
 unfold f0r
 have:(⟨#[]⟩:ByteArray).toList= []:=by rw [ByteArray.toList_eq]
 rw [this]
 cases x.toList<;>rfl
theorem r2t{x:ByteArray}(h:nmB x=true):seq x ⟨#[]⟩=false:=by
 cases hs:seq x ⟨#[]⟩with
 | false=>rfl
 | true=>unfold nmB at h;rw [hs]at h;cases h
def labF:ByteArray→List ByteArray→Int
 | _, []=>0
 | prev,x::r=>bif (!(nmB x)) || (f0r x prev || seq x prev)then 6 else labF x r
def labE(l:List ByteArray):Int:=bif decide ((l.length:Int) >4)then 2 else labF ⟨#[]⟩ l
def q1m(p:List ByteArray):ByteArray:=p.getLastD ⟨#[]⟩
theorem m0z(p:List ByteArray)(x:ByteArray):q1m (p++ [x])=x:=by unfold q1m;simp
theorem v0p{α:Type}(p:List α):p= []∨ ∃q y,p=q++ [y]:=by
 rcases List.eq_nil_or_concat p with h | ⟨q,y,h⟩
 ·exact .inl h
 ·exact .inr ⟨q,y,by simpa using h⟩
theorem k1b(l:List ByteArray)(n:Nat)(hn:20≤n)(hl:l.length≤1000): ∀(r p:List ByteArray),l=p++r→a0i (fun(i:Int) x (s:Unit) (rec:Unit→Option (Int×Unit))=>(q60z n (x,())).bind fun y=>bif !y.1 then some (6,())else
  bif decide (i>0)then(ix l (IntKind.wrap .i64 (i - 1))).bind fun z=>bif !(f0r z x)then some (6,())else rec s else rec s) (fun _=>some (0,())) (p.length:Int) r ()=some (labF (q1m p) r,())
 | [],_,_=>rfl
 | x::r,p,hp=>by
  have ih:=k1b l n hn hl r (p++ [x]) (by simp [hp])
  rw [m0z]at ih
  have e1:((p.length:Int)+1)=((p++ [x]).length:Int):=by simp
  rw [a0i,labF,h0x x n hn,Option.bind_some,e1,ih]
  dsimp only
  cases hnm:nmB x with
  | false=>rfl
  | true=>
   simp only [Bool.not_true,cond_false,Bool.false_or]
   rcases v0p p with rfl | ⟨q,y,rfl⟩
   ·rw [show decide (((([]:List ByteArray).length:Nat):Int) >0)=false from rfl,cond_false]
    rw [show q1m []=⟨#[]⟩from rfl,a1s,r2t hnm]
    rfl
   ·have hq:l=q++y::(x::r):=by rw [hp];simp
    have e2:decide ((((q++ [y]).length:Nat):Int) >0)=true:=by simp
    have e3:IntKind.wrap .i64 (((q++ [y]).length:Int) - 1)=(q.length:Int):=by
     have:(q++ [y]).length=q.length+1:=by simp
     have h2:l.length=q.length+(r.length+2):=by rw [hq];simp
     rw [b0i (by omega) (by omega)];omega
    have e4:ix l (q.length:Int)=some y:=a0z (by rw [hq];simp)
    rw [e2,e3,e4,cond_true,Option.bind_some,m0z,j0u]
    cases f0r x y || seq x y<;>rfl
theorem o1z(l:List ByteArray)(n:Nat)(hn:20≤n):q42z n (l,())=some (labE l,()):=by
 unfold q42z labE
 dsimp only
 cases hb:decide ((l.length:Int) >4)with
 | true=>rfl
 | false=>
  have h4:=of_decide_eq_false hb
  rw [cond_false,cond_false]
  exact(d0j l (fun i (s:Unit)=>(l,l,(l.length:Int),i,())) _ (fun(i:Int) x (s:Unit) (rec:Unit→Option (Int×Unit))=>(q60z n (x,())).bind fun y=>bif !y.1 then some (6,())else
   bif decide (i>0)then(ix l (IntKind.wrap .i64 (i - 1))).bind fun z=>bif !(f0r z x)then some (6,())else rec s else rec s) (fun _=>some (0,()))
   (fun rec i s=>rfl) (by omega) n _ (by omega)).trans (k1b l n hn (by omega) l [] rfl)
def prpF:ByteArray→List Prp→Int
 | _, []=>0
 | prev,x::r=>bif ((!(nmB x.name)) || (f0r x.name prev || seq x.name prev)) || (x.val.kind==0)then 6 else bif chk x.val 1 !=0 then chk x.val 1 else prpF x.name r
def prpE(l:List Prp):Int:=bif decide ((l.length:Int) >6)then 2 else prpF ⟨#[]⟩ l
def c2e(p:List Prp):ByteArray:=q1m (p.map Prp.name)
theorem t0u(p:List Prp)(x:Prp):c2e (p++ [x])=x.name:=by unfold c2e;rw [List.map_append];exact m0z _ _
def prpB(n:Nat)(l:List Prp):Int→Prp→Unit→(Unit→Option (Int×Unit))→Option (Int×Unit):=fun i x s rec=>(q60z n (x.name,())).bind fun y=>bif !y.1 then some (6,())else
  bif decide (i>0)then(ix l (IntKind.wrap .i64 (i - 1))).bind fun z=>bif (!(f0r z.name x.name)) || ((x.val.kind:Int)==0)then some (6,())else
   (q53z n ((Ev.Val.mk x.val.kind x.val.n x.val.s x.val.l),())).bind fun y=>bif (y.1:Int) !=0 then some (y.1,())else rec s
  else bif (x.val.kind:Int)==0 then some (6,())else
   (q53z n ((Ev.Val.mk x.val.kind x.val.n x.val.s x.val.l),())).bind fun y=>bif (y.1:Int) !=0 then some (y.1,())else rec s
theorem j1s(l:List Prp)(n:Nat)(hn:40≤n)(hl:l.length≤1000): ∀(r p:List Prp),l=p++r→a0i (prpB n l) (fun _=>some (0,())) (p.length:Int) r ()=some (prpF (c2e p) r,())
 | [],_,_=>rfl
 | x::r,p,hp=>by
  have ih:=j1s l n hn hl r (p++ [x]) (by simp [hp])
  rw [t0u]at ih
  have e1:((p.length:Int)+1)=((p++ [x]).length:Int):=by simp
  rw [a0i,prpF,prpB,h0x x.name n (by omega),Option.bind_some,Val.eta,o0z x.val n hn,Option.bind_some,e1,ih]
  dsimp only
  cases hnm:nmB x.name with
  | false=>rfl
  | true=>
   simp only [Bool.not_true,cond_false,Bool.false_or]
   rcases v0p p with rfl | ⟨q,y,rfl⟩
   ·rw [show decide (((([]:List Prp).length:Nat):Int) >0)=false from rfl,cond_false]
    rw [show c2e []=⟨#[]⟩from rfl,a1s,r2t hnm]
    simp only [Bool.false_or]
    cases x.val.kind==0
    ·simp only [cond_false];cases chk x.val 1 !=0<;>rfl
    ·rfl
   ·have hq:l=q++y::(x::r):=by rw [hp];simp
    have e2:decide ((((q++ [y]).length:Nat):Int) >0)=true:=by simp
    have e3:IntKind.wrap .i64 (((q++ [y]).length:Int) - 1)=(q.length:Int):=by
     have:(q++ [y]).length=q.length+1:=by simp
     have h2:l.length=q.length+(r.length+2):=by rw [hq];simp
     rw [b0i (by omega) (by omega)];omega
    have e4:ix l (q.length:Int)=some y:=a0z (by rw [hq];simp)
    rw [e2,e3,e4,cond_true,Option.bind_some,t0u,j0u]
    cases (f0r x.name y.name || seq x.name y.name) || (x.val.kind==0)
    ·simp only [cond_false];cases chk x.val 1 !=0<;>rfl
    ·rfl
theorem y0t(l:List Prp)(n:Nat)(hn:40≤n):q45z n (l,())=some (prpE l,()):=by
 unfold q45z prpE
 dsimp only
 cases hb:decide ((l.length:Int) >6)with
 | true=>rfl
 | false=>
  have h4:=of_decide_eq_false hb
  rw [cond_false,cond_false]
  exact(d0j l (fun i (s:Unit)=>(l,l,(l.length:Int),i,())) _ (prpB n l) (fun _=>some (0,())) (fun rec i s=>rfl) (by omega) n _ (by omega)).trans (j1s l n hn (by omega) l [] rfl)
end Pure
namespace Pure
open Esp Ev Go
set_option linter.unusedSimpArgs false
set_option linter.unusedVariables false
theorem half{i j:Int}(h0:0≤i)(h1:0≤j)(h2:i+j≤4611686018427387904):IntKind.wrap .i64 (bshr .u64 (IntKind.wrap .u64 (IntKind.wrap .i64 (i+j))) 1)=(i+j) / 2:=by
 rw [b0i (x:=i+j) (by omega) (by omega),m2o (x:=i+j) (by omega) (by omega)]
 have:bshr .u64 (i+j) 1=(i+j) / 2:=by
  unfold bshr
  rw [show(2:Int) ^ (min (1:Int).toNat IntKind.u64.bits)=2 from rfl,Int.fdiv_eq_ediv_of_nonneg _ (by omega)]
 rw [this,b0i (by omega) (by omega)]
def cmpI(a b:Int):Int:=bif decide (a<b)then -1 else bif decide (a>b)then 1 else 0
theorem f0p(a b:Int):q25z (a,b,())=some (cmpI a b,()):=by
 unfold q25z q38z cmpI
 have: ∀x:Int,(x !=x)=false:=fun x=>by simp
 simp only [Option.bind_some,this,cond_false]
 cases decide (a<b)<;>cases decide (a>b)<;>rfl
theorem a2o(a b:Int):decide (cmpI a b<0)=decide (a<b):=by
 unfold cmpI
 by_cases h:a<b
 ·simp [h]
 ·by_cases h2:a>b<;>simp [h,h2]
theorem d1k(a b:Int):(cmpI a b==0)=decide (a=b):=by
 unfold cmpI
 by_cases h:a<b
 ·simp [h];omega
 ·by_cases h2:a>b
  ·simp [h,h2];omega
  ·simp [h,h2];omega
def Rise{α:Type}(idf:α→Int)(l:List α):Prop:=l.Pairwise fun x y=>idf x<idf y
theorem k1z{α τ ρ:Type}(l:List α)(idf:α→Int)(t:Int)(cmpf:α→Option (Int×Unit))(hc: ∀x,cmpf x=some (cmpI (idf x) t,()))(enc:Int→Int→τ)(step:(τ→Option ρ)→τ→Option ρ)(kx:Int→Option ρ)
  (h: ∀rec i j,step rec (enc i j)=bif decide (i<j)then(ix l (IntKind.wrap .i64 (bshr .u64 (IntKind.wrap .u64 (IntKind.wrap .i64 (i+j))) 1))).bind fun x=>(cmpf x).bind fun y=>bif decide (y.1<0)then rec (enc (IntKind.wrap .i64 ((IntKind.wrap .i64 (bshr .u64 (IntKind.wrap .u64 (IntKind.wrap .i64 (i+j))) 1))+1)) j)else rec (enc i (IntKind.wrap .i64 (bshr .u64 (IntKind.wrap .u64 (IntKind.wrap .i64 (i+j))) 1)))else kx i)
  (hr:Rise idf l)(hl:l.length≤1000000):
  ∀(fuel:Nat) (i j:Nat),i≤j→j≤l.length→j - i<fuel→(∀(q:Nat) x,l[q]? =some x→q<i→idf x<t)→(∀(q:Nat) x,l[q]? =some x→j≤q→t≤idf x)→
   ∃k:Nat,a0k step fuel (enc i j)=kx k∧k≤l.length∧(∀(q:Nat) x,l[q]? =some x→q<k→idf x<t)∧(∀(q:Nat) x,l[q]? =some x→k≤q→t≤idf x):=by
 intro fuel
 induction fuel with
 | zero=>intro i j _ _ hf;omega
 | succ m ih=>
  intro i j hij hj hf h1 h2
  rw [a0k,h]
  by_cases hlt:i<j
  ·have e:decide ((i:Int)< (j:Int))=true:=by rw [decide_eq_true_iff];omega
   have hh:((i:Int)+(j:Int)) / 2=(((i+j) / 2:Nat):Int):=by omega
   rw [e,cond_true,half (by omega) (by omega) (by omega),hh]
   have hq:(i+j) / 2<l.length:=by omega
   have e2:ix l (((i+j) / 2:Nat):Int)=some l[(i+j) / 2]:=a0z (List.getElem?_eq_getElem hq)
   rw [e2,Option.bind_some,hc,Option.bind_some]
   dsimp only
   rw [a2o]
   have hp:=List.pairwise_iff_getElem.1 hr
   by_cases hx:idf l[(i+j) / 2]<t
   ·rw [decide_eq_true hx,cond_true,b0i (by omega) (by omega)]
    refine ih ((i+j) / 2+1) j (by omega) hj (by omega) (fun q x hqx hlt2=> ?_) h2
    obtain⟨hql,rfl⟩:=List.getElem?_eq_some_iff.1 hqx
    by_cases hqe:q=(i+j) / 2
    ·subst hqe;exact hx
    ·have:=hp q ((i+j) / 2) hql hq (by omega)
     omega
   ·rw [decide_eq_false hx,cond_false]
    refine ih i ((i+j) / 2) (by omega) (by omega) (by omega) h1 fun q x hqx hle=> ?_
    obtain⟨hql,rfl⟩:=List.getElem?_eq_some_iff.1 hqx
    by_cases hqe:q=(i+j) / 2
    ·subst hqe;omega
    ·have:=hp ((i+j) / 2) q hq hql (by omega)
     omega
  ·have hije:i=j:=by omega
   subst hije
   rw [decide_eq_false (by omega),cond_false]
   exact⟨i,rfl,hj,h1,h2⟩
def Found{α:Type}(l:List α)(o:Option α)(k:Int):Prop:=(k= -1∧o=none)∨(0≤k∧∃x,ix l k=some x∧o=some x)
theorem Found.ge{α:Type}{l:List α}{o:Option α}{k:Int}(h:Found l o k):decide (k≥0)=o.isSome:=by
 rcases h with⟨rfl,rfl⟩ | ⟨h,x,_,rfl⟩
 ·rfl
 ·simp;omega
theorem Found.lt{α:Type}{l:List α}{o:Option α}{k:Int}(h:Found l o k):decide (k<0)=o.isNone:=by
 rcases h with⟨rfl,rfl⟩ | ⟨h,x,_,rfl⟩
 ·rfl
 ·simp;omega
theorem q0a{α:Type}{idf:α→Int}{l:List α}(hr:Rise idf l){x:α}{t:Int}(hx:x∈l)(he:idf x=t):l.find? (fun y=>idf y==t)=some x:=by
 induction l with
 | nil=>cases hx
 | cons y r ih=>
  rw [List.find?_cons]
  have hp:=List.pairwise_cons.1 hr
  rcases List.mem_cons.1 hx with rfl | hx
  ·simp [he]
  ·have:=hp.1 x hx
   have h0:(idf y==t)=false:=by simp;omega
   rw [h0]
   exact ih hp.2 hx
theorem o0v{α:Type}{idf:α→Int}{l:List α}{t:Int}(hr:Rise idf l){k:Nat}(hk:k≤l.length)(h1: ∀(q:Nat) x,l[q]? =some x→q<k→idf x<t)(h2: ∀(q:Nat) x,l[q]? =some x→k≤q→t≤idf x)(hx: ∀x,l[k]? =some x→idf x≠t):
  l.find? (fun y=>idf y==t)=none:=by
 rw [List.find?_eq_none]
 intro x hm hq
 have hq:idf x=t:=by simpa using hq
 obtain⟨q,hq1,rfl⟩:=List.getElem_of_mem hm
 have hq2:=List.getElem?_eq_getElem hq1
 rcases Nat.lt_trichotomy q k with h | h | h
 ·have:=h1 q _ hq2 h;omega
 ·subst h;exact hx _ hq2 hq
 ·have hkl:k<l.length:=by omega
  have e1:=h2 k _ (List.getElem?_eq_getElem hkl) (Nat.le_refl _)
  have:=List.pairwise_iff_getElem.1 hr k q hkl hq1 h
  omega
def b0a(l:List Ev.Node)(t:Int):Option Ev.Node:=l.find? fun y=>y.id==t
def s0f(l:List Edg)(t:Int):Option Edg:=l.find? fun y=>y.id==t
theorem m0t(g:Graph)(t:Int)(n:Nat)(hr:Rise Ev.Node.id g.nodes)(hl:g.nodes.length≤40)(hn:50≤n): ∃k,q59z n (g,t,())=some (k,())∧Found g.nodes (b0a g.nodes t) k:=by
 have hc: ∀x:Ev.Node,q41z ((Ev.Node.mk x.id x.labels x.props),t,())=some (cmpI x.id t,()):=fun x=>by
  unfold q41z
  simp only [f0p,Option.bind_some]
 obtain⟨k,h1,h2,h3,h4⟩:=k1z (ρ:=Int×Bool×Unit) g.nodes Ev.Node.id t (fun x=>q41z ((Ev.Node.mk x.id x.labels x.props),t,())) hc (fun i j=>(g.nodes,t,(g.nodes.length:Int),i,j,()))
  (fun rec=>j1p n rec (fun(v10,v11,v12,v13,_)=>
 (bif decide ((v13:Int)<v12)then
 (ix v10 v13).bind fun x14=>
 (q41z ((Ev.Node.mk x14.id x14.labels x14.props),v11,())).bind fun(y15,_)=>some (v13,(y15:Int)==0,())
 else some (v13,false,()))) (fun(_)=>none)) (fun i=>bif decide ((i:Int)< (g.nodes.length:Int))then
 (ix g.nodes i).bind fun x14=>
 (q41z ((Ev.Node.mk x14.id x14.labels x14.props),t,())).bind fun(y15,_)=>some (i,(y15:Int)==0,())
 else some (i,false,())) (fun rec i j=>rfl) hr (by omega) n 0 g.nodes.length (by omega) (by omega) (by omega) (fun q x _ h=>absurd h (by omega)) (fun q x h h' =>by
  obtain⟨h5,_⟩:=List.getElem?_eq_some_iff.1 h;omega)
 have e0:q2z n (g.nodes,t,())=_:=h1
 unfold q59z
 dsimp only
 rw [e0]
 by_cases hk:k<g.nodes.length
 ·have e2:ix g.nodes (k:Int)=some g.nodes[k]:=a0z (List.getElem?_eq_getElem hk)
  rw [decide_eq_true (by omega),cond_true,e2,Option.bind_some,hc,Option.bind_some]
  dsimp only
  rw [Option.bind_some,d1k]
  dsimp only
  by_cases he:g.nodes[k].id=t
  ·rw [decide_eq_true he]
   exact⟨k,rfl, .inr ⟨by omega,_,e2,q0a hr (List.getElem_mem hk) he⟩⟩
  ·rw [decide_eq_false he]
   refine⟨-1,rfl, .inl ⟨rfl,o0v hr h2 h3 h4 fun x hx=> ?_⟩⟩
   rw [List.getElem?_eq_getElem hk]at hx
   cases hx
   exact he
 ·rw [decide_eq_false (by omega),cond_false,Option.bind_some]
  refine⟨-1,rfl, .inl ⟨rfl,o0v hr h2 h3 h4 fun x hx=> ?_⟩⟩
  obtain⟨h5,_⟩:=List.getElem?_eq_some_iff.1 hx
  omega
theorem l1n(g:Graph)(t:Int)(n:Nat)(hr:Rise Edg.id g.edges)(hl:g.edges.length≤60)(hn:70≤n): ∃k,q33z n (g,t,())=some (k,())∧Found g.edges (s0f g.edges t) k:=by
 have hc: ∀x:Edg,q24z ((Edg.mk x.id x.src x.dst x.type x.props),t,())=some (cmpI x.id t,()):=fun x=>by
  unfold q24z
  simp only [f0p,Option.bind_some]
 obtain⟨k,h1,h2,h3,h4⟩:=k1z (ρ:=Int×Bool×Unit) g.edges Edg.id t (fun x=>q24z ((Edg.mk x.id x.src x.dst x.type x.props),t,())) hc (fun i j=>(g.edges,t,(g.edges.length:Int),i,j,()))
  (fun rec=>j1k n rec (fun(v10,v11,v12,v13,_)=>
 (bif decide ((v13:Int)<v12)then
 (ix v10 v13).bind fun x14=>
 (q24z ((Ev.Edg.mk x14.id x14.src x14.dst x14.type x14.props),v11,())).bind fun(y15,_)=>some (v13,(y15:Int)==0,())
 else some (v13,false,()))) (fun(_)=>none)) (fun i=>bif decide ((i:Int)< (g.edges.length:Int))then
 (ix g.edges i).bind fun x14=>
 (q24z ((Ev.Edg.mk x14.id x14.src x14.dst x14.type x14.props),t,())).bind fun(y15,_)=>some (i,(y15:Int)==0,())
 else some (i,false,())) (fun rec i j=>rfl) hr (by omega) n 0 g.edges.length (by omega) (by omega) (by omega) (fun q x _ h=>absurd h (by omega)) (fun q x h h' =>by
  obtain⟨h5,_⟩:=List.getElem?_eq_some_iff.1 h;omega)
 have e0:q1z n (g.edges,t,())=_:=h1
 unfold q33z
 dsimp only
 rw [e0]
 by_cases hk:k<g.edges.length
 ·have e2:ix g.edges (k:Int)=some g.edges[k]:=a0z (List.getElem?_eq_getElem hk)
  rw [decide_eq_true (by omega),cond_true,e2,Option.bind_some,hc,Option.bind_some]
  dsimp only
  rw [Option.bind_some,d1k]
  dsimp only
  by_cases he:g.edges[k].id=t
  ·rw [decide_eq_true he]
   exact⟨k,rfl, .inr ⟨by omega,_,e2,q0a hr (List.getElem_mem hk) he⟩⟩
  ·rw [decide_eq_false he]
   refine⟨-1,rfl, .inl ⟨rfl,o0v hr h2 h3 h4 fun x hx=> ?_⟩⟩
   rw [List.getElem?_eq_getElem hk]at hx
   cases hx
   exact he
 ·rw [decide_eq_false (by omega),cond_false,Option.bind_some]
  refine⟨-1,rfl, .inl ⟨rfl,o0v hr h2 h3 h4 fun x hx=> ?_⟩⟩
  obtain⟨h5,_⟩:=List.getElem?_eq_some_iff.1 hx
  omega
end Pure
namespace Pure
open Esp Ev Go
set_option linter.unusedSimpArgs false
set_option linter.unusedVariables false
theorem Graph.eta(g:Graph):Graph.mk g.nodes g.edges g.next=g:=rfl
def orE(a b:Int):Int:=bif a !=0 then a else b
theorem u2n(a b:Int)(n:Nat)(hn:5≤n):q21z n ([a,b],())=some (orE a b,()):=by
 obtain⟨m,rfl⟩: ∃m,n=m+3:=⟨n - 3,by omega⟩
 unfold q21z orE
 dsimp only
 rw [a0k]
 have h1:g0x (ρ:=Int×Unit) (m+3) (a0k (fun rc9=>g0x (m+3) rc9 (fun x=>some (x.1,())) (fun x=>some (x.1,()))) (m+2)) (fun x=>some (x.1,())) (fun x=>some (x.1,())) (0, [a,b],(([a,b]:List Int).length:Int),0,())=
  bif a !=0 then some (a,())else(a0k (fun rc9=>g0x (m+3) rc9 (fun x=>some (x.1,())) (fun x=>some (x.1,()))) (m+2)) (0, [a,b],(([a,b]:List Int).length:Int),1,()):=rfl
 refine h1.trans ?_
 cases ha:a !=0
 ·rw [cond_false,cond_false,a0k]
  have h2:g0x (ρ:=Int×Unit) (m+3) (a0k (fun rc9=>g0x (m+3) rc9 (fun x=>some (x.1,())) (fun x=>some (x.1,()))) (m+1)) (fun x=>some (x.1,())) (fun x=>some (x.1,())) (0, [a,b],(([a,b]:List Int).length:Int),1,())=
   bif b !=0 then some (b,())else some (0,()):=rfl
  refine h2.trans ?_
  cases hb:b !=0
  ·have:b=0:=by simpa using hb
   subst this
   rfl
  ·rfl
 ·rfl
def nodF:Int→List Ev.Node→Int
 | _, []=>0
 | last,x::r=>bif decide (x.id≤last)then 6 else bif orE (labE x.labels) (prpE x.props) !=0 then orE (labE x.labels) (prpE x.props)else nodF x.id r
def nodL:Int→List Ev.Node→Int
 | last, []=>last
 | _,x::r=>nodL x.id r
def nodB(n:Nat){ρ:Type}(kr:Int×Unit→Option ρ):Int→Ev.Node→Int→(Int→Option ρ)→Option ρ:=fun i x last rec=>bif decide ((x.id:Int)≤last)then kr (6,())else
 (q42z n (x.labels,())).bind fun y8=>(q45z n (x.props,())).bind fun y9=>(q21z n ([y8.1,y9.1],())).bind fun y10=>bif (y10.1:Int) !=0 then kr (y10.1,())else rec x.id
theorem m1h(n:Nat)(hn:60≤n){ρ:Type}(kr:Int×Unit→Option ρ)(k:Int→Option ρ): ∀(l:List Ev.Node) (i last:Int),a0i (nodB n kr) k i l last=bif nodF last l !=0 then kr (nodF last l,())else k (nodL last l)
 | [],_,_=>rfl
 | x::r,i,last=>by
  rw [a0i,nodF,nodL,nodB,o1z x.labels n (by omega),Option.bind_some,y0t x.props n (by omega),Option.bind_some,u2n _ _ n (by omega),Option.bind_some,m1h n hn kr k r (i+1) x.id]
  dsimp only
  cases decide (x.id≤last)
  ·simp only [cond_false]
   cases h:orE (labE x.labels) (prpE x.props) !=0
   ·simp only [cond_false]
   ·simp only [cond_true,h]
  ·rfl
theorem f0w: ∀{l:List Ev.Node} {last:Int},nodF last l=0→(∀x∈l,last<x.id)∧Rise Ev.Node.id l∧last≤nodL last l
 | [],last,_=>⟨fun x hx=>(by cases hx),List.Pairwise.nil,Int.le_refl _⟩
 | x::r,last,h=>by
  rw [nodF]at h
  cases h1:decide (x.id≤last)with
  | true=>rw [h1]at h;cases h
  | false=>
   rw [h1,cond_false]at h
   have hlt:=of_decide_eq_false h1
   cases h2:orE (labE x.labels) (prpE x.props) !=0 with
   | true=>rw [h2,cond_true]at h;rw [h]at h2;cases h2
   | false=>
    rw [h2,cond_false]at h
    obtain⟨i1,i2,i3⟩:=f0w h
    refine⟨fun y hy=> ?_,List.pairwise_cons.2 ⟨i1,i2⟩, ?_⟩
    ·rcases List.mem_cons.1 hy with rfl | hy
     ·omega
     ·have:=i1 y hy;omega
    ·rw [nodL];omega
def edgF(nodes:List Ev.Node):Int→List Edg→Int
 | _, []=>0
 | last,x::r=>bif decide (x.id≤last)then 6 else bif (b0a nodes x.id).isSome then 6 else bif !(nmB x.type)then 6 else bif (b0a nodes x.src).isNone then 5 else bif (b0a nodes x.dst).isNone then 5 else
  bif prpE x.props !=0 then prpE x.props else edgF nodes x.id r
def edgL:Int→List Edg→Int
 | last, []=>last
 | _,x::r=>edgL x.id r
def topM:Int→List Edg→Int
 | top, []=>top
 | top,x::r=>topM (if x.id>top then x.id else top) r
def edgB(n:Nat)(g:Graph){ρ:Type}(kr:Int×Unit→Option ρ):Int→Edg→Int→(Int→Option ρ)→Option ρ:=fun i x last rec=>bif decide ((x.id:Int)≤last)then kr (6,())else
 (q59z n (g,x.id,())).bind fun y21=>bif decide ((y21.1:Int) ≥0)then kr (6,())else
 (q60z n (x.type,())).bind fun y22=>bif !y22.1 then kr (6,())else
 (q59z n (g,x.src,())).bind fun y23=>bif decide ((y23.1:Int)<0)then kr (5,())else
 (q59z n (g,x.dst,())).bind fun y24=>bif decide ((y24.1:Int)<0)then kr (5,())else
 (q45z n (x.props,())).bind fun y25=>bif (y25.1:Int) !=0 then kr (y25.1,())else rec x.id
theorem j1h(n:Nat)(hn:60≤n)(g:Graph)(hr:Rise Ev.Node.id g.nodes)(hl:g.nodes.length≤40){ρ:Type}(kr:Int×Unit→Option ρ)(k:Int→Option ρ): ∀(l:List Edg) (i last:Int),a0i (edgB n g kr) k i l last=bif edgF g.nodes last l !=0 then kr (edgF g.nodes last l,())else k (edgL last l)
 | [],_,_=>rfl
 | x::r,i,last=>by
  obtain⟨k1,a1,b1⟩:=m0t g x.id n hr hl (by omega)
  obtain⟨k2,a2,b2⟩:=m0t g x.src n hr hl (by omega)
  obtain⟨k3,a3,b3⟩:=m0t g x.dst n hr hl (by omega)
  rw [a0i,edgF,edgL,edgB,a1,Option.bind_some,a2,Option.bind_some,a3,Option.bind_some,y0t x.props n (by omega),Option.bind_some,h0x x.type n (by omega),Option.bind_some,j1h n hn g hr hl kr k r (i+1) x.id]
  dsimp only
  rw [b1.ge,b2.lt,b3.lt]
  cases decide (x.id≤last)
  ·cases (b0a g.nodes x.id).isSome
   ·cases !(nmB x.type)
    ·cases (b0a g.nodes x.src).isNone
     ·cases (b0a g.nodes x.dst).isNone
      ·simp only [cond_false]
       cases h:prpE x.props !=0
       ·simp only [cond_false]
       ·simp only [cond_true,h]
      ·rfl
     ·rfl
    ·rfl
   ·rfl
  ·rfl
theorem p0b{nodes:List Ev.Node}: ∀{l:List Edg} {last:Int},edgF nodes last l=0→(∀x∈l,last<x.id)∧Rise Edg.id l∧∀top,topM (if last>top then last else top) l=(if edgL last l>top then edgL last l else top)
 | [],last,_=>⟨fun x hx=>(by cases hx),List.Pairwise.nil,fun top=>rfl⟩
 | x::r,last,h=>by
  rw [edgF]at h
  cases h1:decide (x.id≤last)with
  | true=>rw [h1]at h;cases h
  | false=>
   rw [h1,cond_false]at h
   have hlt:=of_decide_eq_false h1
   have h0:edgF nodes x.id r=0:=by
    cases h2:(b0a nodes x.id).isSome with
    | true=>rw [h2]at h;cases h
    | false=>
     cases h3: !(nmB x.type)with
     | true=>rw [h2,h3]at h;cases h
     | false=>
      cases h4:(b0a nodes x.src).isNone with
      | true=>rw [h2,h3,h4]at h;cases h
      | false=>
       cases h5:(b0a nodes x.dst).isNone with
       | true=>rw [h2,h3,h4,h5]at h;cases h
       | false=>
        rw [h2,h3,h4,h5]at h
        simp only [cond_false]at h
        cases h6:prpE x.props !=0 with
        | true=>rw [h6,cond_true]at h;rw [h]at h6;cases h6
        | false=>rw [h6]at h;exact h
   obtain⟨i1,i2,i3⟩:=p0b h0
   refine⟨fun y hy=> ?_,List.pairwise_cons.2 ⟨i1,i2⟩,fun top=> ?_⟩
   ·rcases List.mem_cons.1 hy with rfl | hy
    ·omega
    ·have:=i1 y hy;omega
   ·rw [topM,edgL, ←i3 top]
    congr 1
    rcases Int.lt_or_le top last with h9 | h9
    ·have e:(if last>top then last else top)=last:=if_pos h9
     rw [e,if_pos (show x.id>last by omega),if_pos (show x.id>top by omega)]
    ·have e:(if last>top then last else top)=top:=if_neg (by omega)
     rw [e]
def maxI(a b:Int):Int:=if a>b then a else b
def chkG(g:Graph):Int:=bif (decide ((g.nodes.length:Int) >40)) || (decide ((g.edges.length:Int) >60))then 2 else bif nodF 0 g.nodes !=0 then nodF 0 g.nodes else bif edgF g.nodes 0 g.edges !=0 then edgF g.nodes 0 g.edges else
 bif (decide ((g.next:Int)≤maxI (edgL 0 g.edges) (nodL 0 g.nodes))) || (decide ((g.next:Int) >1099511627776))then 9 else 0
theorem s0i(g:Graph)(n:Nat)(hn:80≤n):q44z n (g,())=some (chkG g,()):=by
 unfold q44z chkG
 dsimp only
 cases hb:(decide ((g.nodes.length:Int) >40)) || (decide ((g.edges.length:Int) >60))with
 | true=>rfl
 | false=>
  have h1:=of_decide_eq_false (Bool.or_eq_false_iff.1 hb).1
  have h2:=of_decide_eq_false (Bool.or_eq_false_iff.1 hb).2
  rw [cond_false,cond_false]
  refine(d0j g.nodes (fun i (s:Int)=>(s,g.nodes,(g.nodes.length:Int),i,(g,()),())) _ (nodB n (fun x=>some (x.1,()))) _ (fun rec i s=>rfl) (by omega) n 0 (by omega)).trans ?_
  rw [m1h n (by omega)]
  cases h3:nodF 0 g.nodes !=0 with
  | true=>rfl
  | false=>
   have h30:nodF 0 g.nodes=0:=by simpa using h3
   rw [cond_false,cond_false]
   refine(d0j g.edges (fun i (s:Int)=>(s,nodL 0 g.nodes,g.edges,(g.edges.length:Int),i,(g,()),())) _ (edgB n g (fun x=>some (x.1,()))) _ (fun rec i s=>rfl) (by omega) n 0 (by omega)).trans ?_
   rw [j1h n (by omega) g (f0w h30).2.1 (by omega)]
   cases h4:edgF g.nodes 0 g.edges !=0 with
   | true=>rfl
   | false=>
    rw [cond_false,cond_false]
    dsimp only
    unfold maxI
    cases (decide ((g.next:Int)≤if edgL 0 g.edges>nodL 0 g.nodes then edgL 0 g.edges else nodL 0 g.nodes)) || (decide ((g.next:Int) >1099511627776))<;>rfl
end Pure
namespace Pure
open Esp Ev Go
set_option linter.unusedSimpArgs false
set_option linter.unusedVariables false
theorem d0d{n b:Nat}(h:n≤1000)(hb:b≤1000):room n b=true:=by
 unfold room
 rw [Bool.and_eq_true]
 exact⟨Nat.ble_eq_true_of_le (by omega),Nat.ble_eq_true_of_le (by have:n*b≤1000*1000:=Nat.mul_le_mul h hb;omega)⟩
theorem c1s{ρ:Type}(self:Val×Unit→Option (Val×Unit))(k:List Val→Option ρ): ∀(r p:List Val) (i:Int),(∀x∈r,self (x,())=some (x,()))→p.length+r.length≤30→
  a0i (fun(i:Int) (x:Val) (s:List Val) (rec:List Val→Option ρ)=>(self (x,())).bind fun y=>ck (room (s++([y.1]:List Val)).length 56) (rec (s++([y.1]:List Val)))) k i r p=k (p++r)
 | [],p,i,_,_=>by simp [a0i]
 | x::r,p,i,h,hl=>by
  rw [a0i,h x (by simp),Option.bind_some]
  dsimp only
  rw [h0j (d0d (by simp at hl⊢;omega) (by omega)),c1s self k r (p++ [x]) (i+1) (fun y hy=>h y (by simp [hy])) (by simp at hl⊢;omega)]
  simp
theorem w0i(v:Val): ∀(d:Int) (n:Nat),1≤d→d≤7→40≤n+d.toNat→chk v d=0→q66z n (v,())=some (v,()):=by
 induction v using j0e with
 | _ k a s l ih=>
  intro d n h1 h2 h3 hc
  obtain⟨m,rfl⟩: ∃m,n=m+1:=⟨n - 1,by omega⟩
  have key:l.length≤30→(∀x∈l,q66z m (x,())=some (x,()))→q66z (m+1) (.mk k a s l,())=some (.mk k a s l,()):=by
   intro hl hs
   rw [q66z]
   unfold m1u
   dsimp+instances only [c0g,n_mk,s_mk,l_mk]
   refine(d0j l (fun i (s0:List Val)=>(l,(l.length:Int),i,(k,a,s,()),((Ev.Val.mk 0 0 (⟨#[]⟩:ByteArray) ([]:List Ev.Val)),()),s0,())) _ (fun(i:Int) (x:Val) (s:List Val) rec=>(q66z m (x,())).bind fun y=>ck (room (s++([y.1]:List Val)).length 56) (rec (s++([y.1]:List Val)))) (fun s0=>some (.mk k a s s0,()))
    (fun rec i s=>by simp only [s0d,Val.eta]) (by omega) m [] (by omega)).trans ?_
   rw [c1s _ _ l [] 0 hs (by simpa using hl)]
   rfl
  rw [chk]at hc
  have nil: ∀{x:Bool},fin6 (x&& ((l.length:Int)==0))=0→l= []:=fun{x} h=>by
   have:=u0i h
   rw [Bool.and_eq_true]at this
   simpa using this.2
  have key0:l= []→q66z (m+1) (.mk k a s l,())=some (.mk k a s l,()):=fun h=>key (by rw [h];simp) (by rw [h];intro x hx;cases hx)
  cases h0:k==0
  ·rw [h0]at hc
   cases h1:k==1
   ·rw [h1]at hc
    cases h2:k==2
    ·rw [h2]at hc
     cases h3:k==3
     ·rw [h3]at hc
      cases h4:k==4
      ·rw [h4]at hc;cases hc
      ·rw [h4]at hc
       simp only [cond_false,cond_true]at hc
       cases hb:decide ((l.length:Int) >30) || decide (d>6)
       ·rw [hb]at hc
        have hb2:=Bool.or_eq_false_iff.1 hb
        have h30:=of_decide_eq_false hb2.1
        have h6:=of_decide_eq_false hb2.2
        simp only [cond_false]at hc
        cases hcc:chks l (d+1) !=0
        ·have hc0:chks l (d+1)=0:=by simpa using hcc
         exact key (by omega) fun x hx=>ih x hx (d+1) m (by omega) (by omega) (by omega) (j2c hc0 x hx)
        ·rw [hcc]at hc
         have h0:chks l (d+1)=0:=hc
         simp [h0]at hcc
       ·rw [hb]at hc;cases hc
     ·rw [h3]at hc
      simp only [cond_false,cond_true]at hc
      cases hb:decide ((s.size:Int) >4000)
      ·rw [hb]at hc
       simp only [cond_false]at hc
       cases ha:a==0
       ·rw [ha]at hc;cases hc
       ·rw [ha]at hc
        exact key0 (nil hc)
      ·rw [hb]at hc;cases hc
    ·rw [h2]at hc
     exact key0 (nil hc)
   ·rw [h1]at hc
    exact key0 (nil hc)
  ·rw [h0]at hc
   exact key0 (nil hc)
theorem g2o: ∀{l:List Prp} {prev:ByteArray},prpF prev l=0→∀x∈l,chk x.val 1=0
 | [],_,_=>fun x hx=>(by cases hx)
 | y::r,prev,h=>by
  rw [prpF]at h
  cases h1:((!(nmB y.name)) || (f0r y.name prev || seq y.name prev)) || (y.val.kind==0)with
  | true=>rw [h1]at h;cases h
  | false=>
   rw [h1,cond_false]at h
   cases h2:chk y.val 1 !=0 with
   | true=>rw [h2,cond_true]at h;rw [h]at h2;cases h2
   | false=>
    rw [h2]at h
    have h0:chk y.val 1=0:=by simpa using h2
    intro x hx
    rcases List.mem_cons.1 hx with rfl | hx
    ·exact h0
    ·exact g2o h x hx
theorem r1k{l:List Prp}(h:prpE l=0):l.length≤6∧∀x∈l,chk x.val 1=0:=by
 unfold prpE at h
 cases h1:decide ((l.length:Int) >6)with
 | true=>rw [h1]at h;cases h
 | false=>
  rw [h1]at h
  have:=of_decide_eq_false h1
  exact⟨by omega,g2o h⟩
theorem n2q{l:List ByteArray}(h:labE l=0):l.length≤4:=by
 unfold labE at h
 cases h1:decide ((l.length:Int) >4)with
 | true=>rw [h1]at h;cases h
 | false=>
  have:=of_decide_eq_false h1
  omega
theorem c1r: ∀{l:List Ev.Node} {last:Int},nodF last l=0→∀x∈l,labE x.labels=0∧prpE x.props=0
 | [],_,_=>fun x hx=>(by cases hx)
 | y::r,last,h=>by
  rw [nodF]at h
  cases h1:decide (y.id≤last)with
  | true=>rw [h1]at h;cases h
  | false=>
   rw [h1,cond_false]at h
   cases h2:orE (labE y.labels) (prpE y.props) !=0 with
   | true=>rw [h2,cond_true]at h;rw [h]at h2;cases h2
   | false=>
    rw [h2]at h
    have h0:orE (labE y.labels) (prpE y.props)=0:=by simpa using h2
    unfold orE at h0
    intro x hx
    rcases List.mem_cons.1 hx with rfl | hx
    ·cases h3:labE x.labels !=0 with
     | true=>rw [h3,cond_true]at h0;rw [h0]at h3;cases h3
     | false=>rw [h3]at h0;exact⟨by simpa using h3,h0⟩
    ·exact c1r h x hx
theorem b1r{nodes:List Ev.Node}: ∀{l:List Edg} {last:Int},edgF nodes last l=0→∀x∈l,prpE x.props=0∧(b0a nodes x.id).isSome=false∧(b0a nodes x.src).isNone=false∧(b0a nodes x.dst).isNone=false
 | [],_,_=>fun x hx=>(by cases hx)
 | y::r,last,h=>by
  rw [edgF]at h
  cases h1:decide (y.id≤last)with
  | true=>rw [h1]at h;cases h
  | false=>
   cases h2:(b0a nodes y.id).isSome with
   | true=>rw [h1,h2]at h;cases h
   | false=>
    cases h3: !(nmB y.type)with
    | true=>rw [h1,h2,h3]at h;cases h
    | false=>
     cases h4:(b0a nodes y.src).isNone with
     | true=>rw [h1,h2,h3,h4]at h;cases h
     | false=>
      cases h5:(b0a nodes y.dst).isNone with
      | true=>rw [h1,h2,h3,h4,h5]at h;cases h
      | false=>
       rw [h1,h2,h3,h4,h5]at h
       simp only [cond_false]at h
       cases h6:prpE y.props !=0 with
       | true=>rw [h6,cond_true]at h;rw [h]at h6;cases h6
       | false=>
        rw [h6]at h
        intro x hx
        rcases List.mem_cons.1 hx with rfl | hx
        ·exact⟨by simpa using h6,h2,h4,h5⟩
        ·exact b1r h x hx
theorem f0d{g:Graph}(h:chkG g=0):g.nodes.length≤40∧g.edges.length≤60∧nodF 0 g.nodes=0∧edgF g.nodes 0 g.edges=0:=by
 unfold chkG at h
 cases hb:(decide ((g.nodes.length:Int) >40)) || (decide ((g.edges.length:Int) >60))with
 | true=>rw [hb]at h;cases h
 | false=>
  have h1:=of_decide_eq_false (Bool.or_eq_false_iff.1 hb).1
  have h2:=of_decide_eq_false (Bool.or_eq_false_iff.1 hb).2
  rw [hb,cond_false]at h
  cases h3:nodF 0 g.nodes !=0 with
  | true=>rw [h3,cond_true]at h;rw [h]at h3;cases h3
  | false=>
   rw [h3,cond_false]at h
   cases h4:edgF g.nodes 0 g.edges !=0 with
   | true=>rw [h4,cond_true]at h;rw [h]at h4;cases h4
   | false=>exact⟨by omega,by omega,by simpa using h3,by simpa using h4⟩
def z1y:Val:= .mk 0 0 ⟨#[]⟩ []
def i0s:List Prp→ByteArray→Val
 | [],_=>z1y
 | x::r,s=>bif seq x.name s then x.val else i0s r s
theorem v0a(s:ByteArray): ∀l:List Prp,i0s l s=z1y∨∃x∈l,i0s l s=x.val
 | []=> .inl rfl
 | x::r=>by
  rw [i0s]
  cases seq x.name s
  ·rcases v0a s r with h | ⟨y,h1,h2⟩
   ·exact .inl h
   ·exact .inr ⟨y,by simp [h1],h2⟩
  ·exact .inr ⟨x,by simp,rfl⟩
theorem l1l(n:Nat)(hn:40≤n)(s:ByteArray)(k:Unit→Option (Val×Unit))(hk:k ()=some (z1y,())): ∀(l:List Prp) (i:Int),(∀x∈l,chk x.val 1=0)→a0i (fun(i:Int) (x:Prp) (u:Unit) (rec:Unit→Option (Val×Unit))=>bif seq x.name s then(q66z n (x.val,())).bind fun y=>some (y.1,())else rec u) k i l ()=some (i0s l s,())
 | [],i,_=>hk
 | x::r,i,h=>by
  rw [a0i,i0s,w0i x.val 1 n (by omega) (by omega) (by omega) (h x (by simp)),Option.bind_some,l1l n hn s k hk r (i+1) fun y hy=>h y (by simp [hy])]
  cases seq x.name s<;>rfl
theorem g2x(l:List Prp)(s:ByteArray)(n:Nat)(hn:40≤n)(hl:l.length≤6)(h: ∀x∈l,chk x.val 1=0):e0i n (l,s,())=some (i0s l s,()):=by
 unfold e0i
 exact(d0j l (fun i (u:Unit)=>(s,l,(l.length:Int),i,(z1y,()),())) _ (fun(i:Int) (x:Prp) (u:Unit) (rec:Unit→Option (Val×Unit))=>bif seq x.name s then(q66z n (x.val,())).bind fun y=>some (y.1,())else rec u) (fun _=>some (z1y,()))
  (fun rec i u=>by simp only [d0u,Val.eta];rfl) (by omega) n () (by omega)).trans (l1l n hn s _ rfl l 0 h)
theorem n1x{l:List Ev.Node}{t:Int}{x:Ev.Node}(h:b0a l t=some x):x∈l:=List.mem_of_find?_eq_some h
theorem u0b{l:List Edg}{t:Int}{x:Edg}(h:s0f l t=some x):x∈l:=List.mem_of_find?_eq_some h
end Pure
namespace Pure
open Esp Ev Go
set_option linter.unusedSimpArgs false
set_option linter.unusedVariables false
def hasL(l:List ByteArray)(s:ByteArray):Bool:=l.any fun x=>seq s x
theorem u0d(s:ByteArray)(k:Unit→Option (Int×Unit))(hk:k ()=some (-1,())): ∀(l:List ByteArray) (i:Int),0≤i→∃j,a0i (fun(i:Int) (x:ByteArray) (u:Unit) (rec:Unit→Option (Int×Unit))=>bif seq s x then some (i,())else rec u) k i l ()=some (j,())∧decide (j≥0)=hasL l s
 | [],i,_=>⟨-1,hk,rfl⟩
 | x::r,i,hi=>by
  obtain⟨j,h1,h2⟩:=u0d s k hk r (i+1) (by omega)
  rw [a0i,h1]
  unfold hasL at h2⊢
  rw [List.any_cons]
  cases seq s x
  ·exact⟨j,rfl,by rw [h2];rfl⟩
  ·exact⟨i,rfl,by simpa using hi⟩
end Pure

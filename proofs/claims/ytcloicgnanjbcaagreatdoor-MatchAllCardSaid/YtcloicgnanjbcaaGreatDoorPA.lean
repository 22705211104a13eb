import Derived.Test.YtcloicgnanjbcaaGreatDoorPCode
import Derived.Test.YtcloicgnanjbcaaGreatDoorPLib
import Derived.Test.YtcloicgnanjbcaaGreatDoorEvRead6
import Derived.Test.YtcloicgnanjbcaaGreatDoorPRange
import Derived.KernelRfl
noncomputable section
namespace Pure
open Esp Ev Go
set_option linter.unusedSimpArgs false
set_option linter.unusedVariables false
theorem Val.eta(v:Val):Val.mk v.kind v.n v.s v.l=v:=by cases v;rfl
theorem a0t(k n:Int)(s:ByteArray)(l:List Val):(Val.mk k n s l).kind=k:=rfl
theorem n_mk(k n:Int)(s:ByteArray)(l:List Val):(Val.mk k n s l).n=n:=rfl
theorem s_mk(k n:Int)(s:ByteArray)(l:List Val):(Val.mk k n s l).s=s:=rfl
theorem l_mk(k n:Int)(s:ByteArray)(l:List Val):(Val.mk k n s l).l=l:=rfl
mutual
theorem e0t{p:Val→Prop}(h: ∀k n s l,(∀x∈l,p x)→p (.mk k n s l)): ∀v,p v
 | .mk k n s l=>h k n s l (g1f h l)
theorem g1f{p:Val→Prop}(h: ∀k n s l,(∀x∈l,p x)→p (.mk k n s l)): ∀l:List Val,∀x∈l,p x
 | []=>fun _ hx=>by cases hx
 | y::r=>List.forall_mem_cons.2 ⟨e0t h y,g1f h r⟩
end
theorem a0b(a b:ByteArray):seq a b=true↔a=b:=by
 unfold seq;constructor
 ·intro h
  have h2:=eq_of_beq h;rw [ByteArray.toList_eq,ByteArray.toList_eq]at h2;cases a;cases b;congr 1;exact Array.toList_inj.1 h2
 ·rintro rfl
  exact beq_self_eq_true _
theorem a0r(a:ByteArray):seq a a=true:=(a0b a a).2 rfl
def fin6(b:Bool):Int:=bif b then 0 else 6
mutual
def chk:Val→Int→Int
 | .mk k n s l,d=>
  bif k==0 then fin6 (((n==0)&&seq s ⟨#[]⟩)&& ((l.length:Int)==0))
  else bif k==1 then fin6 ((((n==0) || (n==1))&&seq s ⟨#[]⟩)&& ((l.length:Int)==0))
  else bif k==2 then fin6 (seq s ⟨#[]⟩&& ((l.length:Int)==0))
  else bif k==3 then(bif decide ((s.size:Int) >4000)then 2 else bif n==0 then fin6 (k0x s&& ((l.length:Int)==0))else 6)
  else bif k==4 then(bif decide ((l.length:Int) >30) || decide (d>6)then 2 else bif chks l (d+1) !=0 then chks l (d+1)else fin6 ((n==0)&&seq s ⟨#[]⟩))
  else 6
def chks:List Val→Int→Int
 | [],_=>0
 | x::r,d=>bif chk x d !=0 then chk x d else chks r d
end
theorem q0a{s:ByteArray}(h:(s.size:Int)≤4000):s0c (s,())=some (k0x s,()):=by
 unfold s0c;show(bif Nat.ble s.size 9223372036854775807 then some (k0x s,())else none)=_
 rw [k2k (by omega)];rfl
theorem i1v{ρ:Type}(self:Val×Int×Unit→Option Y10)(n:Nat)(l:List Val)(d:Int)(hd:IntKind.wrap .i64 (d+1)=d+1)(hs: ∀x∈l,self (x,d+1,())=some (chk x (d+1),()))(hl:l.length≤30)(o:Val)
  (kx:(Val×Unit)×Unit→Option ρ)(kr:Int×Unit→Option ρ):
  ∀(r p:List Val),l=p++r→∀fuel,r.length<fuel→a0a (fun rc=>n0u self n rc kx kr) fuel (d,l,(l.length:Int),(p.length:Int),(o,()),())=bif chks r (d+1) !=0 then kr (chks r (d+1),())else kx ((o,()),()):=by
 intro r
 induction r with
 | nil=>
  intro p hp fuel hf;obtain⟨m,rfl⟩: ∃m,fuel=m+1:=⟨fuel - 1,by omega⟩;have e:decide ((p.length:Int)< (l.length:Int))=false:=by rw [decide_eq_false_iff_not];subst hp;simp
  simp only [a0a,n0u,Val.eta,e,cond_false,chks];rfl
 | cons x r ih=>
  intro p hp fuel hf;obtain⟨m,rfl⟩: ∃m,fuel=m+1:=⟨fuel - 1,by omega⟩;have hlen:l.length=p.length+(r.length+1):=by rw [hp];simp
  have e:decide ((p.length:Int)< (l.length:Int))=true:=by rw [decide_eq_true_iff];omega
  have e2:ix l (p.length:Int)=some x:=a0k (by rw [hp];simp);have e3:IntKind.wrap .i64 ((p.length:Int)+1)=((p++ [x]).length:Int):=by rw [a0h (by omega) (by omega)];simp
  have e4:=hs x (by rw [hp];simp);have e5:=ih (p++ [x]) (by simp [hp]) m (by simp at hf;omega);rw [a0a];simp only [n0u,Val.eta,e,e2,e3,hd,e4,cond_true,j2r,e5];rw [chks];cases hc:chk x (d+1) !=0<;>simp [hc]
theorem v1d(v:Val): ∀(d:Int) (n:Nat),1≤d→d≤7→40≤n+d.toNat→q91z n (v,d,())=some (chk v d,()):=by
 induction v using e0t with
 | _ k a s l ih=>
  intro d n h1 h2 h3;obtain⟨m,rfl⟩: ∃m,n=m+1:=⟨n - 1,by omega⟩;simp only [q91z,o1u,chk,Val.eta];dsimp+instances only [a0t,n_mk,s_mk,l_mk];cases k==0
  ·cases k==1
   ·cases k==2
    ·cases k==3
     ·cases k==4
      ·rfl
      ·simp only [cond_false,cond_true]
       cases hb:decide ((l.length:Int) >30) || decide (d>6)
       ·have hb2:=k2c.1 hb
        have h30:=of_decide_eq_false hb2.1;have h6:=of_decide_eq_false hb2.2;have hw:IntKind.wrap .i64 (d+1)=d+1:=a0h (by omega) (by omega);simp only [cond_false,Val.eta];have:=i1v (ρ:=Int×Unit) (q91z m) m l d hw (fun x hx=>ih x hx (d+1) m (by omega) (by omega) (by omega)) (by omega) (.mk k a s l)
         (fun(o11,_)=>(bif !(((o11.1.n:Int)==0)&& (seq o11.1.s (⟨#[]⟩:ByteArray)))then some (6,())else some (0,()))) (fun x=>some ((x.1:Int),())) l [] rfl m (by omega)
        refine this.trans ?_;cases chks l (d+1) !=0
        ·simp only [cond_false,a0t,n_mk,s_mk,l_mk]
         cases (a==0)&&seq s ⟨#[]⟩<;>rfl
        ·rfl
       ·rfl
     ·simp only [cond_false,cond_true]
      cases hb:decide ((s.size:Int) >4000)
      ·have:=of_decide_eq_false hb
       simp only [cond_false];cases a==0
       ·rfl
       ·simp only [cond_true,q0a (s:=s) (by omega),j2r]
        cases k0x s&& ((l.length:Int)==0)<;>rfl
      ·rfl
    ·simp only [cond_false,cond_true]
     cases seq s ⟨#[]⟩&& ((l.length:Int)==0)<;>rfl
   ·simp only [cond_false,cond_true]
    cases ((a==0) || (a==1))&&seq s ⟨#[]⟩&& ((l.length:Int)==0)<;>rfl
  ·simp only [cond_true]
   cases (a==0)&&seq s ⟨#[]⟩&& ((l.length:Int)==0)<;>rfl
theorem n0s(v:Val)(n:Nat)(h:40≤n):q89z n (v,())=some (chk v 1,()):=by
 simp only [q89z,Val.eta,v1d v 1 n (by omega) (by omega) (by omega),j2r]
inductive Right:Val→Int→Prop
 | null (d:Int):Right (.mk 0 0 ⟨#[]⟩ []) d
 | truth (n:Int) (d:Int):n=0∨n=1→Right (.mk 1 n ⟨#[]⟩ []) d
 | int (n:Int) (d:Int):wfI .i64 n→Right (.mk 2 n ⟨#[]⟩ []) d
 | text (s:ByteArray) (d:Int):s.size≤4000→k0x s=true→Right (.mk 3 0 s []) d
 | list (l:List Val) (d:Int):l.length≤30→d≤6→(∀x∈l,Right x (d+1))→Right (.mk 4 0 ⟨#[]⟩ l) d
theorem r0h{b:Bool}(h:fin6 b=0):b=true:=by cases b<;>first | rfl | (unfold fin6 at h;simp at h)
theorem w1w{l:List Val}{d:Int}(h:chks l d=0): ∀x∈l,chk x d=0:=by
 induction l with
 | nil=>intro x hx;cases hx
 | cons y r ih=>
  rw [chks]at h;cases hc:chk y d !=0
  ·rw [hc]at h
   have hc0:chk y d=0:=by simpa using hc
   intro x hx;rcases k2b.1 hx with rfl | hx
   ·exact hc0
   ·exact ih h x hx
  ·rw [hc]at h
   have h0:chk y d=0:=h;simp [h0]at hc
theorem n0p(v:Val): ∀d,vOk v→chk v d=0→Right v d:=by
 induction v using e0t with
 | _ k a s l ih=>
  intro d hv h;rw [vOk,c0k]at hv;have hlen: ∀{x:Bool},(x&& ((l.length:Int)==0))=true→x=true∧l= []:=fun h=>by
   rw [j2s]at h;exact⟨h.1,by have:=h.2;simpa using this⟩
  rw [chk]at h;cases h0:k==0
  ·rw [h0]at h
   cases h1:k==1
   ·rw [h1]at h
    cases h2:k==2
    ·rw [h2]at h
     cases h3:k==3
     ·rw [h3]at h
      cases h4:k==4
      ·rw [h4]at h;cases h
      ·rw [h4]at h
       have hk:k=4:=by simpa using h4
       subst hk;simp only [cond_false,cond_true]at h;cases hb:decide ((l.length:Int) >30) || decide (d>6)
       ·rw [hb]at h
        have hb2:=k2c.1 hb;have h30:=of_decide_eq_false hb2.1;have h6:=of_decide_eq_false hb2.2;simp only [cond_false]at h;cases hc:chks l (d+1) !=0
        ·rw [hc]at h
         have hc0:chks l (d+1)=0:=by simpa using hc
         have h7:=r0h h;rw [j2s,a0b]at h7;obtain⟨h8,rfl⟩:=h7;have:a=0:=by simpa using h8
         subst this;exact .list l d (by omega) (by omega) fun x hx=>ih x hx (d+1) (hv.2.2.2.2 x hx) (w1w hc0 x hx)
        ·rw [hc]at h
         have h0:chks l (d+1)=0:=h;simp [h0]at hc
       ·rw [hb]at h;cases h
     ·rw [h3]at h
      have hk:k=3:=by simpa using h3
      subst hk;simp only [cond_false,cond_true]at h;cases hb:decide ((s.size:Int) >4000)
      ·rw [hb]at h
       have h40:=of_decide_eq_false hb;simp only [cond_false]at h;cases ha:a==0
       ·rw [ha]at h;cases h
       ·rw [ha]at h
        obtain⟨h5,rfl⟩:=hlen (r0h h);have:a=0:=by simpa using ha
        subst this;exact .text s d (by omega) h5
      ·rw [hb]at h;cases h
    ·rw [h2]at h
     have hk:k=2:=by simpa using h2
     subst hk;obtain⟨h5,rfl⟩:=hlen (r0h h);obtain rfl:=(a0b _ _).1 h5;exact .int a d hv.2.1
   ·rw [h1]at h
    have hk:k=1:=by simpa using h1
    subst hk;obtain⟨h5,rfl⟩:=hlen (r0h h);rw [j2s,a0b]at h5;obtain⟨h6,rfl⟩:=h5;exact .truth a d (by simpa using h6)
  ·rw [h0]at h
   have hk:k=0:=by simpa using h0
   subst hk;obtain⟨h5,rfl⟩:=hlen (r0h h);rw [j2s,a0b]at h5;obtain⟨h6,rfl⟩:=h5;have:a=0:=by simpa using h6
   subst this;exact .null d
end Pure
namespace Pure
open Esp Ev Go
set_option linter.unusedSimpArgs false
set_option linter.unusedVariables false
theorem d1c{ρ:Type}(self:Val×Int×Unit→Option Y10)(n:Nat)(l:List Val)(d:Int)(hd:IntKind.wrap .i64 (d+1)=d+1)(hs: ∀x∈l,self (x,d+1,())=some (chk x (d+1),()))(hl:l.length≤30)(a b:Bool)
  (kx:Bool×Bool×Unit→Option ρ)(kr:Int×Unit→Option ρ):
  ∀(r p:List Val),l=p++r→∀fuel,r.length<fuel→a0a (fun rc=>o0o self n rc kx kr) fuel (d,a,b,l,(l.length:Int),(p.length:Int),())=bif chks r (d+1) !=0 then kr (chks r (d+1),())else kx (a,b,()):=by
 intro r
 induction r with
 | nil=>
  intro p hp fuel hf;obtain⟨m,rfl⟩: ∃m,fuel=m+1:=⟨fuel - 1,by omega⟩;have e:decide ((p.length:Int)< (l.length:Int))=false:=by rw [decide_eq_false_iff_not];subst hp;simp
  simp only [a0a,o0o,Val.eta,e,cond_false,chks];rfl
 | cons x r ih=>
  intro p hp fuel hf;obtain⟨m,rfl⟩: ∃m,fuel=m+1:=⟨fuel - 1,by omega⟩;have hlen:l.length=p.length+(r.length+1):=by rw [hp];simp
  have e:decide ((p.length:Int)< (l.length:Int))=true:=by rw [decide_eq_true_iff];omega
  have e2:ix l (p.length:Int)=some x:=a0k (by rw [hp];simp);have e3:IntKind.wrap .i64 ((p.length:Int)+1)=((p++ [x]).length:Int):=by rw [a0h (by omega) (by omega)];simp
  have e4:=hs x (by rw [hp];simp);have e5:=ih (p++ [x]) (by simp [hp]) m (by simp at hf;omega);rw [a0a];simp only [o0o,Val.eta,e,e2,e3,hd,e4,cond_true,j2r,e5];rw [chks];cases hc:chk x (d+1) !=0<;>simp [hc]
theorem p0t(v:Val): ∀(d:Int) (n:Nat),1≤d→d≤7→40≤n+d.toNat→q18z n (v,d,())=some (chk v d,()):=by
 induction v using e0t with
 | _ k a s l ih=>
  intro d n h1 h2 h3;obtain⟨m,rfl⟩: ∃m,n=m+1:=⟨n - 1,by omega⟩;simp only [q18z,n1u,chk,Val.eta];dsimp+instances only [a0t,n_mk,s_mk,l_mk];by_cases k4:k=4
  ·subst k4
   rw [show((4:Int)==0)=false from rfl,show((4:Int)==1)=false from rfl,show((4:Int)==2)=false from rfl,show((4:Int)==3)=false from rfl,show((4:Int)==4)=true from rfl]
   simp only [cond_false,cond_true];cases hb:decide ((l.length:Int) >30) || decide (d>6)
   ·have hb2:=k2c.1 hb
    have h30:=of_decide_eq_false hb2.1;have h6:=of_decide_eq_false hb2.2;have hw:IntKind.wrap .i64 (d+1)=d+1:=a0h (by omega) (by omega);simp only [cond_false];refine(d1c (ρ:=Int×Unit) (q18z m) m l d hw (fun x hx=>ih x hx (d+1) m (by omega) (by omega) (by omega)) (by omega) (a==0) (seq s ⟨#[]⟩) _ _ l [] rfl m (by omega)).trans ?_;cases chks l (d+1) !=0
    ·simp only [cond_false]
     cases (a==0)&&seq s ⟨#[]⟩<;>rfl
    ·rfl
   ·rfl
  ·have e4:(k==4)=false:=by simpa using k4
   rw [e4];simp only [cond_false];by_cases k3:k=3
   ·subst k3
    rw [show((3:Int)==0)=false from rfl,show((3:Int)==1)=false from rfl,show((3:Int)==2)=false from rfl,show((3:Int)==3)=true from rfl]
    simp only [cond_false,cond_true];cases hb:decide ((s.size:Int) >4000)
    ·have:=of_decide_eq_false hb
     simp only [cond_false,q0a (s:=s) (by omega),j2r];cases a==0<;>cases (l.length:Int)==0<;>cases k0x s<;>rfl
    ·rfl
   ·have e3:(k==3)=false:=by simpa using k3
    rw [e3];simp only [cond_false];cases k==0
    ·cases k==1
     ·cases k==2
      ·rfl
      ·simp only [cond_false,cond_true]
       cases seq s ⟨#[]⟩&& ((l.length:Int)==0)<;>rfl
     ·simp only [cond_false,cond_true]
      cases ((a==0) || (a==1))&&seq s ⟨#[]⟩&& ((l.length:Int)==0)<;>rfl
    ·simp only [cond_true]
     cases (a==0)&&seq s ⟨#[]⟩&& ((l.length:Int)==0)<;>rfl
end Pure
namespace Pure
open Esp Ev Go
set_option linter.unusedSimpArgs false
set_option linter.unusedVariables false
def lttI(c:Int):Bool:=(((decide (c≥97))&& (decide (c≤122))) || ((decide (c≥65))&& (decide (c≤90)))) || (c==95)
def digI(c:Int):Bool:=decide (c≥48)&&decide (c≤57)
def nmF:Int→List Int→Bool
 | _, []=>true
 | i,c::r=>bif !(lttI c)&& (((i==0) || (decide (c<48))) || (decide (c>57)))then false else nmF (i+1) r
def nmB(s:ByteArray):Bool:=bif (seq s ⟨#[]⟩) || (decide ((s.size:Int) >12))then false else nmF 0 (bi s.data.toList)
theorem o1f: ∀(l:List Int) (i:Int),a0c (fun i c (s:Unit) (rec:Unit→Option Y13)=>bif !(lttI c)&& (((i==0) || (decide (c<48))) || (decide (c>57)))then some (false,())else rec s) (fun _=>some (true,())) i l ()=some (nmF i l,())
 | [],i=>rfl
 | c::r,i=>by
  rw [a0c,nmF];cases !(lttI c)&& (((i==0) || (decide (c<48))) || (decide (c>57)))
  ·simp only [cond_false];exact o1f r (i+1)
  ·rfl
theorem i0n(s:ByteArray)(n:Nat)(hn:20≤n):q96z n (s,())=some (nmB s,()):=by
 unfold q96z nmB;dsimp only;cases hb:(seq s ⟨#[]⟩) || (decide ((s.size:Int) >12))with
 | true=>rfl
 | false=>
  have h12:=of_decide_eq_false (k2c.1 hb).2;rw [cond_false,cond_false];exact(o1l s (fun i (_:Unit)=>(s,(s.size:Int),i,())) _ (fun i c s rec=>bif !(lttI c)&& (((i==0) || (decide (c<48))) || (decide (c>57)))then some (false,())else rec s) (fun _=>some (true,()))
   (fun rec i s=>rfl) (by omega) n () (by omega)).trans (o1f _ 0)
def cs63:ByteArray:=⟨#[97,98,99,100,101,102,103,104,105,106,107,108,109,110,111,112,113,114,115,116,117,118,119,120,121,122,65,66,67,68,69,70,71,72,73,74,75,76,77,78,79,80,81,82,83,84,85,86,87,88,89,90,48,49,50,51,52,53,54,55,56,57,95]⟩
theorem s1v:(List.range 256).all (fun k=>cs63.data.toList.contains (UInt8.ofNat k)==(lttI (k:Int) || digI (k:Int)))=true:=by kernel_rfl
theorem d1v(b:UInt8):cs63.data.toList.contains b=(lttI (b.toNat:Int) || digI (b.toNat:Int)):=by
 have h:=k2f.1 s1v b.toNat (m2e.2 b.toNat_lt);have h2:=eq_of_beq h;rwa [UInt8.ofNat_toNat]at h2
theorem j0y{α:Type}(p:α→Bool)(l:List α):(∀x∈l.dropWhile p,p x=true)↔ ∀x∈l,p x=true:=by
 induction l with
 | nil=>simp
 | cons y r ih=>
  rw [List.dropWhile_cons];cases hy:p y with
  | true=>simp [hy,ih]
  | false=>simp [hy]
theorem s1w(l cs:List UInt8):Lib.trimS l cs= []↔ ∀b∈l,cs.contains b=true:=by
 unfold Lib.trimS Lib.trimLeftS Lib.trimRightS;constructor
 ·intro h
  have h1: ∀x∈((l.reverse.dropWhile (cs.contains ·)).reverse).dropWhile (cs.contains ·),cs.contains x=true:=by rw [h];simp
  rw [j0y]at h1;have h2: ∀x∈l.reverse.dropWhile (cs.contains ·),cs.contains x=true:=fun x hx=>h1 x (by simpa using hx)
  rw [j0y]at h2;exact fun b hb=>h2 b (by simpa using hb)
 ·intro h
  have h1:l.reverse.dropWhile (cs.contains ·)= []:=by
   cases hm:l.reverse.dropWhile (cs.contains ·)with
   | nil=>rfl
   | cons y r=>
    exfalso;have:=List.head?_dropWhile_not (cs.contains ·) l.reverse
    rw [hm]at this;simp only [List.head?_cons]at this;have hy:y∈l:=by
     have:y∈l.reverse.dropWhile (cs.contains ·):=by rw [hm];simp
     have:=(List.dropWhile_sublist (cs.contains ·) (l:=l.reverse)).subset this
     simpa using this
    rw [h y hy]at this;cases this
  rw [h1];rfl
theorem l1e: ∀(l:List UInt8) (i:Int),0<i→nmF i (bi l)=l.all fun b=>lttI (b.toNat:Int) || digI (b.toNat:Int)
 | [],_,_=>rfl
 | b::r,i,hi=>by
  rw [t0l,nmF,List.all_cons,l1e r (i+1) (by omega)];have h0:(i==0)=false:=by simp;omega
  rw [h0,k2m];cases lttI (b.toNat:Int)with
  | true=>rfl
  | false=>
   have:(decide ((b.toNat:Int)<48) || decide ((b.toNat:Int) >57))= !(digI (b.toNat:Int)):=by
    unfold digI;by_cases h1:(b.toNat:Int)<48<;>by_cases h2:(b.toNat:Int) >57<;>simp [h1,h2]<;>omega
   rw [this];cases digI (b.toNat:Int)<;>rfl
theorem t1u(s:ByteArray)(h:s.size≤12):h1h (s,cs63,())=some (trimS s cs63,()):=by
 unfold h1h;have:(Nat.ble s.size 9223372036854775807&&Nat.ble cs63.size 4294967280&&l1j cs63)=true:=by
  rw [j2s,j2s];exact⟨⟨k2k (by omega),by kernel_rfl⟩,by kernel_rfl⟩
 dsimp only;rw [this];rfl
theorem x1f(l:List UInt8):seq ⟨l.toArray⟩ ⟨#[]⟩=l.isEmpty:=by
 cases l with
 | nil=>exact a0r _
 | cons a r=>
  cases h:seq ⟨(a::r).toArray⟩ ⟨#[]⟩with
  | false=>rfl
  | true=>
   have:=(a0b _ _).1 h;simp at this
theorem d0y(s:ByteArray):q41z (s,())=some (nmB s,()):=by
 unfold q41z nmB;dsimp only;cases hb:(seq s ⟨#[]⟩) || (decide ((s.size:Int) >12))with
 | true=>rfl
 | false=>
  have h12:=of_decide_eq_false (k2c.1 hb).2;have hne:=(k2c.1 hb).1;rw [cond_false,cond_false];have hs:s=⟨s.data.toList.toArray⟩:=by cases s;simp
  cases hl:s.data.toList with
  | nil=>
   rw [hl]at hs;subst hs;simp [a0r]at hne
  | cons b t=>
   have e1:sat s 0=some (b.toNat:Int):=by unfold sat;rw [if_pos (by omega),hl];rfl
   have e2:=t1u s (by omega);have e3:seq (trimS s cs63) ⟨#[]⟩=(b::t).all fun b=>lttI (b.toNat:Int) || digI (b.toNat:Int):=by
    unfold trimS;rw [x1f,hl];rw [Bool.eq_iff_iff,List.isEmpty_iff,s1w,k2f];constructor
    ·intro h x hx;rw [←d1v];exact h x hx
    ·intro h x hx;rw [d1v];exact h x hx
   rw [t0l,nmF,l1e t (0+1) (by omega)];unfold cs63 at e2 e3;simp only [e1,e2,e3,j2r];rw [List.all_cons];by_cases h1:(b.toNat:Int) ≥48
   ·by_cases h2:(b.toNat:Int)≤57
    ·have hl2:lttI (b.toNat:Int)=false:=by unfold lttI;simp;omega
     simp [h1,h2,hl2]
    ·have hd:digI (b.toNat:Int)=false:=by unfold digI;simp;omega
     simp only [h1,h2,hd,decide_true,decide_false,cond_true,cond_false,l2f,beq_self_eq_true,l2a,m2m];cases lttI (b.toNat:Int)<;>rfl
   ·have hd:digI (b.toNat:Int)=false:=by unfold digI;simp;omega
    simp only [h1,hd,decide_true,decide_false,cond_true,cond_false,l2f,beq_self_eq_true,l2a,m2m];cases lttI (b.toNat:Int)<;>rfl
theorem c2u(a b:UInt8):(decide (a<b))=decide (a.toNat<b.toNat):=by
 by_cases h:a<b
 ·rw [decide_eq_true h,decide_eq_true (UInt8.lt_iff_toNat_lt.1 h)]
 ·rw [decide_eq_false h,decide_eq_false fun h2=>h (UInt8.lt_iff_toNat_lt.2 h2)]
theorem g2s(a b:UInt8):(a==b)=decide (a.toNat=b.toNat):=by
 by_cases h:a=b
 ·subst h;simp
 ·have: ¬a.toNat=b.toNat:=fun h2=>h (UInt8.toNat_inj.1 h2)
  simp [h,this]
theorem r0u: ∀x y:List UInt8,(!(Op.bytesLess y x))=(Op.bytesLess x y || x==y)
 | [], []=>rfl
 | [],b::y=>rfl
 | a::x, []=>rfl
 | a::x,b::y=>by
  have ih:=r0u x y;rw [Op.bytesLess,Op.bytesLess,List.cons_beq_cons,c2u,c2u,g2s,g2s];rcases Nat.lt_trichotomy a.toNat b.toNat with h | h | h
  ·simp [h,show ¬b.toNat<a.toNat by omega,show ¬b.toNat=a.toNat by omega]
  ·simp only [h,Nat.lt_irrefl,decide_false,k2m,decide_true,l2e]
   exact ih
  ·simp [h,show ¬a.toNat<b.toNat by omega,show ¬a.toNat=b.toNat by omega]
theorem g0b(x y:ByteArray):(!(c0w y x))=(c0w x y || seq x y):=r0u _ _
theorem v0n(x:ByteArray):c0w x ⟨#[]⟩=false:=by
 unfold c0w;have:(⟨#[]⟩:ByteArray).toList= []:=by rw [ByteArray.toList_eq]
 rw [this];cases x.toList<;>rfl
theorem f2i{x:ByteArray}(h:nmB x=true):seq x ⟨#[]⟩=false:=by
 cases hs:seq x ⟨#[]⟩with
 | false=>rfl
 | true=>unfold nmB at h;rw [hs]at h;cases h
def labF:ByteArray→List ByteArray→Int
 | _, []=>0
 | prev,x::r=>bif (!(nmB x)) || (c0w x prev || seq x prev)then 6 else labF x r
def labE(l:List ByteArray):Int:=bif decide ((l.length:Int) >4)then 2 else labF ⟨#[]⟩ l
theorem w0k: ∀(l:List ByteArray) (i:Int) (prev:ByteArray),a0c (fun(i:Int) x (prev:ByteArray) (rec:ByteArray→Option Y10)=>(q41z (x,())).bind fun y=>bif (!y.1) || (c0w x prev || seq x prev)then some (6,())else rec x) (fun _=>some (0,())) i l prev=some (labF prev l,())
 | [],_,_=>rfl
 | x::r,i,prev=>by
  rw [a0c,labF,d0y,j2r];dsimp only;cases (!(nmB x)) || (c0w x prev || seq x prev)
  ·simp only [cond_false];exact w0k r (i+1) x
  ·rfl
theorem h1q(l:List ByteArray)(n:Nat)(hn:20≤n):q12z n (l,())=some (labE l,()):=by
 unfold q12z labE;dsimp only;cases hb:decide ((l.length:Int) >4)with
 | true=>rfl
 | false=>
  have h4:=of_decide_eq_false hb;rw [cond_false,cond_false];exact(a0y l (fun i (s:ByteArray)=>(s,l,(l.length:Int),i,())) _ (fun(i:Int) x (prev:ByteArray) (rec:ByteArray→Option Y10)=>(q41z (x,())).bind fun y=>bif (!y.1) || (c0w x prev || seq x prev)then some (6,())else rec x) (fun _=>some (0,()))
   (fun rec i s=>rfl) (by omega) n _ (by omega)).trans (w0k l 0 _)
def n1s(p:List ByteArray):ByteArray:=p.getLastD ⟨#[]⟩
theorem l0s(p:List ByteArray)(x:ByteArray):n1s (p++ [x])=x:=by unfold n1s;simp
theorem r0e{α:Type}(p:List α):p= []∨ ∃q y,p=q++ [y]:=by
 rcases List.eq_nil_or_concat p with h | ⟨q,y,h⟩
 ·exact .inl h
 ·exact .inr ⟨q,y,by simpa using h⟩
theorem f1a(l:List ByteArray)(n:Nat)(hn:20≤n)(hl:l.length≤1000): ∀(r p:List ByteArray),l=p++r→a0c (fun(i:Int) x (s:Unit) (rec:Unit→Option Y10)=>(q96z n (x,())).bind fun y=>bif !y.1 then some (6,())else
  bif decide (i>0)then(ix l (IntKind.wrap .i64 (i - 1))).bind fun z=>bif !(c0w z x)then some (6,())else rec s else rec s) (fun _=>some (0,())) (p.length:Int) r ()=some (labF (n1s p) r,())
 | [],_,_=>rfl
 | x::r,p,hp=>by
  have ih:=f1a l n hn hl r (p++ [x]) (by simp [hp]);rw [l0s]at ih;have e1:((p.length:Int)+1)=((p++ [x]).length:Int):=by simp
  rw [a0c,labF,i0n x n hn,j2r,e1,ih];dsimp only;cases hnm:nmB x with
  | false=>rfl
  | true=>
   simp only [k2e,cond_false,k2m];rcases r0e p with rfl | ⟨q,y,rfl⟩
   ·rw [show decide (((([]:List ByteArray).length:Nat):Int) >0)=false from rfl,cond_false]
    rw [show n1s []=⟨#[]⟩from rfl,v0n,f2i hnm]
    rfl
   ·have hq:l=q++y::(x::r):=by rw [hp];simp
    have e2:decide ((((q++ [y]).length:Nat):Int) >0)=true:=by simp
    have e3:IntKind.wrap .i64 (((q++ [y]).length:Int) - 1)=(q.length:Int):=by
     have:(q++ [y]).length=q.length+1:=by simp
     have h2:l.length=q.length+(r.length+2):=by rw [hq];simp
     rw [a0h (by omega) (by omega)];omega
    have e4:ix l (q.length:Int)=some y:=a0k (by rw [hq];simp);rw [e2,e3,e4,cond_true,j2r,l0s,g0b];cases c0w x y || seq x y<;>rfl
theorem p1h(l:List ByteArray)(n:Nat)(hn:20≤n):q80z n (l,())=some (labE l,()):=by
 unfold q80z labE;dsimp only;cases hb:decide ((l.length:Int) >4)with
 | true=>rfl
 | false=>
  have h4:=of_decide_eq_false hb;rw [cond_false,cond_false];exact(a0y l (fun i (s:Unit)=>(l,l,(l.length:Int),i,())) _ (fun(i:Int) x (s:Unit) (rec:Unit→Option Y10)=>(q96z n (x,())).bind fun y=>bif !y.1 then some (6,())else
   bif decide (i>0)then(ix l (IntKind.wrap .i64 (i - 1))).bind fun z=>bif !(c0w z x)then some (6,())else rec s else rec s) (fun _=>some (0,()))
   (fun rec i s=>rfl) (by omega) n _ (by omega)).trans (f1a l n hn (by omega) l [] rfl)
def prpF:ByteArray→List Prp→Int
 | _, []=>0
 | prev,x::r=>bif ((!(nmB x.name)) || (c0w x.name prev || seq x.name prev)) || (x.val.kind==0)then 6 else bif chk x.val 1 !=0 then chk x.val 1 else prpF x.name r
def prpE(l:List Prp):Int:=bif decide ((l.length:Int) >6)then 2 else prpF ⟨#[]⟩ l
def a2r(n:Nat):Int→Prp→ByteArray→(ByteArray→Option Y10)→Option Y10:=fun i x prev rec=>(q41z (x.name,())).bind fun y=>bif ((!y.1) || (c0w x.name prev || seq x.name prev)) || ((x.val.kind:Int)==0)then some (6,())else
  (q18z n ((Ev.Val.mk x.val.kind x.val.n x.val.s x.val.l),1,())).bind fun y=>bif (y.1:Int) !=0 then some (y.1,())else rec x.name
theorem w0o(n:Nat)(hn:40≤n): ∀(l:List Prp) (i:Int) (prev:ByteArray),a0c (a2r n) (fun _=>some (0,())) i l prev=some (prpF prev l,())
 | [],_,_=>rfl
 | x::r,i,prev=>by
  rw [a0c,prpF,a2r,d0y,j2r,Val.eta,p0t x.val 1 n (by omega) (by omega) (by omega),j2r,w0o n hn r (i+1) x.name];dsimp only;cases ((!(nmB x.name)) || (c0w x.name prev || seq x.name prev)) || (x.val.kind==0)
  ·simp only [cond_false];cases chk x.val 1 !=0<;>rfl
  ·rfl
theorem z0e(l:List Prp)(n:Nat)(hn:40≤n):q16z n (l,())=some (prpE l,()):=by
 unfold q16z prpE;dsimp only;cases hb:decide ((l.length:Int) >6)with
 | true=>rfl
 | false=>
  have h4:=of_decide_eq_false hb;rw [cond_false,cond_false];exact(a0y l (fun i (s:ByteArray)=>(s,l,(l.length:Int),i,())) _ (a2r n) (fun _=>some (0,())) (fun rec i s=>rfl) (by omega) n _ (by omega)).trans (w0o n hn l 0 _)
def t1m(p:List Prp):ByteArray:=n1s (p.map Prp.name)
theorem q0n(p:List Prp)(x:Prp):t1m (p++ [x])=x.name:=by unfold t1m;rw [List.map_append];exact l0s _ _
def prpB(n:Nat)(l:List Prp):Int→Prp→Unit→(Unit→Option Y10)→Option Y10:=fun i x s rec=>(q96z n (x.name,())).bind fun y=>bif !y.1 then some (6,())else
  bif decide (i>0)then(ix l (IntKind.wrap .i64 (i - 1))).bind fun z=>bif (!(c0w z.name x.name)) || ((x.val.kind:Int)==0)then some (6,())else
   (q89z n ((Ev.Val.mk x.val.kind x.val.n x.val.s x.val.l),())).bind fun y=>bif (y.1:Int) !=0 then some (y.1,())else rec s
  else bif (x.val.kind:Int)==0 then some (6,())else
   (q89z n ((Ev.Val.mk x.val.kind x.val.n x.val.s x.val.l),())).bind fun y=>bif (y.1:Int) !=0 then some (y.1,())else rec s
theorem g1n(l:List Prp)(n:Nat)(hn:40≤n)(hl:l.length≤1000): ∀(r p:List Prp),l=p++r→a0c (prpB n l) (fun _=>some (0,())) (p.length:Int) r ()=some (prpF (t1m p) r,())
 | [],_,_=>rfl
 | x::r,p,hp=>by
  have ih:=g1n l n hn hl r (p++ [x]) (by simp [hp]);rw [q0n]at ih;have e1:((p.length:Int)+1)=((p++ [x]).length:Int):=by simp
  rw [a0c,prpF,prpB,i0n x.name n (by omega),j2r,Val.eta,n0s x.val n hn,j2r,e1,ih];dsimp only;cases hnm:nmB x.name with
  | false=>rfl
  | true=>
   simp only [k2e,cond_false,k2m];rcases r0e p with rfl | ⟨q,y,rfl⟩
   ·rw [show decide (((([]:List Prp).length:Nat):Int) >0)=false from rfl,cond_false]
    rw [show t1m []=⟨#[]⟩from rfl,v0n,f2i hnm]
    simp only [k2m];cases x.val.kind==0
    ·simp only [cond_false];cases chk x.val 1 !=0<;>rfl
    ·rfl
   ·have hq:l=q++y::(x::r):=by rw [hp];simp
    have e2:decide ((((q++ [y]).length:Nat):Int) >0)=true:=by simp
    have e3:IntKind.wrap .i64 (((q++ [y]).length:Int) - 1)=(q.length:Int):=by
     have:(q++ [y]).length=q.length+1:=by simp
     have h2:l.length=q.length+(r.length+2):=by rw [hq];simp
     rw [a0h (by omega) (by omega)];omega
    have e4:ix l (q.length:Int)=some y:=a0k (by rw [hq];simp);rw [e2,e3,e4,cond_true,j2r,q0n,g0b];cases (c0w x.name y.name || seq x.name y.name) || (x.val.kind==0)
    ·simp only [cond_false];cases chk x.val 1 !=0<;>rfl
    ·rfl
theorem e1r(l:List Prp)(n:Nat)(hn:40≤n):q83z n (l,())=some (prpE l,()):=by
 unfold q83z prpE;dsimp only;cases hb:decide ((l.length:Int) >6)with
 | true=>rfl
 | false=>
  have h4:=of_decide_eq_false hb;rw [cond_false,cond_false];exact(a0y l (fun i (s:Unit)=>(l,l,(l.length:Int),i,())) _ (prpB n l) (fun _=>some (0,())) (fun rec i s=>rfl) (by omega) n _ (by omega)).trans (g1n l n hn (by omega) l [] rfl)
end Pure
namespace Pure
open Esp Ev Go
set_option linter.unusedSimpArgs false
set_option linter.unusedVariables false
theorem half{i j:Int}(h0:0≤i)(h1:0≤j)(h2:i+j≤4611686018427387904):IntKind.wrap .i64 (bshr .u64 (IntKind.wrap .u64 (IntKind.wrap .i64 (i+j))) 1)=(i+j) / 2:=by
 rw [a0h (x:=i+j) (by omega) (by omega),b0u (x:=i+j) (by omega) (by omega)];have:bshr .u64 (i+j) 1=(i+j) / 2:=by
  unfold bshr;rw [show(2:Int) ^ (min (1:Int).toNat IntKind.u64.bits)=2 from rfl,m2j _ (by omega)]
 rw [this,a0h (by omega) (by omega)]
def cmpI(a b:Int):Int:=bif decide (a<b)then -1 else bif decide (a>b)then 1 else 0
theorem i0c(a b:Int):q61z (a,b,())=some (cmpI a b,()):=by
 unfold q61z q76z cmpI;have: ∀x:Int,(x !=x)=false:=fun x=>by simp
 simp only [j2r,this,cond_false];cases decide (a<b)<;>cases decide (a>b)<;>rfl
theorem u1w(a b:Int):decide (cmpI a b<0)=decide (a<b):=by
 unfold cmpI;by_cases h:a<b
 ·simp [h]
 ·by_cases h2:a>b<;>simp [h,h2]
theorem z0c(a b:Int):(cmpI a b==0)=decide (a=b):=by
 unfold cmpI;by_cases h:a<b
 ·simp [h];omega
 ·by_cases h2:a>b
  ·simp [h,h2];omega
  ·simp [h,h2];omega
def Rise{α:Type}(idf:α→Int)(l:List α):Prop:=l.Pairwise fun x y=>idf x<idf y
theorem e1n{α τ ρ:Type}(l:List α)(idf:α→Int)(t:Int)(cmpf:α→Option Y10)(hc: ∀x,cmpf x=some (cmpI (idf x) t,()))(enc:Int→Int→τ)(step:(τ→Option ρ)→τ→Option ρ)(kx:Int→Option ρ)
  (h: ∀rec i j,step rec (enc i j)=bif decide (i<j)then(ix l (IntKind.wrap .i64 (bshr .u64 (IntKind.wrap .u64 (IntKind.wrap .i64 (i+j))) 1))).bind fun x=>(cmpf x).bind fun y=>bif decide (y.1<0)then rec (enc (IntKind.wrap .i64 ((IntKind.wrap .i64 (bshr .u64 (IntKind.wrap .u64 (IntKind.wrap .i64 (i+j))) 1))+1)) j)else rec (enc i (IntKind.wrap .i64 (bshr .u64 (IntKind.wrap .u64 (IntKind.wrap .i64 (i+j))) 1)))else kx i)
  (hr:Rise idf l)(hl:l.length≤1000000):
  ∀(fuel:Nat) (i j:Nat),i≤j→j≤l.length→j - i<fuel→(∀(q:Nat) x,l[q]? =some x→q<i→idf x<t)→(∀(q:Nat) x,l[q]? =some x→j≤q→t≤idf x)→
   ∃k:Nat,a0a step fuel (enc i j)=kx k∧k≤l.length∧(∀(q:Nat) x,l[q]? =some x→q<k→idf x<t)∧(∀(q:Nat) x,l[q]? =some x→k≤q→t≤idf x):=by
 intro fuel
 induction fuel with
 | zero=>intro i j _ _ hf;omega
 | succ m ih=>
  intro i j hij hj hf h1 h2;rw [a0a,h];by_cases hlt:i<j
  ·have e:decide ((i:Int)< (j:Int))=true:=by rw [decide_eq_true_iff];omega
   have hh:((i:Int)+(j:Int)) / 2=(((i+j) / 2:Nat):Int):=by omega
   rw [e,cond_true,half (by omega) (by omega) (by omega),hh];have hq:(i+j) / 2<l.length:=by omega
   have e2:ix l (((i+j) / 2:Nat):Int)=some l[(i+j) / 2]:=a0k (j2x hq);rw [e2,j2r,hc,j2r];dsimp only;rw [u1w];have hp:=List.pairwise_iff_getElem.1 hr;by_cases hx:idf l[(i+j) / 2]<t
   ·rw [decide_eq_true hx,cond_true,a0h (by omega) (by omega)]
    refine ih ((i+j) / 2+1) j (by omega) hj (by omega) (fun q x hqx hlt2=> ?_) h2;obtain⟨hql,rfl⟩:=k2a.1 hqx;by_cases hqe:q=(i+j) / 2
    ·subst hqe;exact hx
    ·have:=hp q ((i+j) / 2) hql hq (by omega)
     omega
   ·rw [decide_eq_false hx,cond_false]
    refine ih i ((i+j) / 2) (by omega) (by omega) (by omega) h1 fun q x hqx hle=> ?_;obtain⟨hql,rfl⟩:=k2a.1 hqx;by_cases hqe:q=(i+j) / 2
    ·subst hqe;omega
    ·have:=hp ((i+j) / 2) q hq hql (by omega)
     omega
  ·have hije:i=j:=by omega
   subst hije;rw [decide_eq_false (by omega),cond_false];exact⟨i,rfl,hj,h1,h2⟩
def Found{α:Type}(l:List α)(o:Option α)(k:Int):Prop:=(k= -1∧o=none)∨(0≤k∧∃x,ix l k=some x∧o=some x)
theorem Found.ge{α:Type}{l:List α}{o:Option α}{k:Int}(h:Found l o k):decide (k≥0)=o.isSome:=by
 rcases h with⟨rfl,rfl⟩ | ⟨h,x,_,rfl⟩
 ·rfl
 ·simp;omega
theorem Found.lt{α:Type}{l:List α}{o:Option α}{k:Int}(h:Found l o k):decide (k<0)=o.isNone:=by
 rcases h with⟨rfl,rfl⟩ | ⟨h,x,_,rfl⟩
 ·rfl
 ·simp;omega
theorem x0s{α:Type}{idf:α→Int}{l:List α}(hr:Rise idf l){x:α}{t:Int}(hx:x∈l)(he:idf x=t):l.find? (fun y=>idf y==t)=some x:=by
 induction l with
 | nil=>cases hx
 | cons y r ih=>
  rw [List.find?_cons];have hp:=List.pairwise_cons.1 hr;rcases k2b.1 hx with rfl | hx
  ·simp [he]
  ·have:=hp.1 x hx
   have h0:(idf y==t)=false:=by simp;omega
   rw [h0];exact ih hp.2 hx
theorem n0i{α:Type}{idf:α→Int}{l:List α}{t:Int}(hr:Rise idf l){k:Nat}(hk:k≤l.length)(h1: ∀(q:Nat) x,l[q]? =some x→q<k→idf x<t)(h2: ∀(q:Nat) x,l[q]? =some x→k≤q→t≤idf x)(hx: ∀x,l[k]? =some x→idf x≠t):
  l.find? (fun y=>idf y==t)=none:=by
 rw [List.find?_eq_none];intro x hm hq;have hq:idf x=t:=by simpa using hq
 obtain⟨q,hq1,rfl⟩:=List.getElem_of_mem hm;have hq2:=j2x hq1;rcases Nat.lt_trichotomy q k with h | h | h
 ·have:=h1 q _ hq2 h;omega
 ·subst h;exact hx _ hq2 hq
 ·have hkl:k<l.length:=by omega
  have e1:=h2 k _ (j2x hkl) (k2h _);have:=List.pairwise_iff_getElem.1 hr k q hkl hq1 h;omega
def b0d(l:List Ev.Node)(t:Int):Option Ev.Node:=l.find? fun y=>y.id==t
def c0m(l:List Edg)(t:Int):Option Edg:=l.find? fun y=>y.id==t
theorem t0t(g:Graph)(t:Int)(n:Nat)(hr:Rise Ev.Node.id g.nodes)(hl:g.nodes.length≤40)(hn:50≤n): ∃k,q95z n (g,t,())=some (k,())∧Found g.nodes (b0d g.nodes t) k:=by
 have hc: ∀x:Ev.Node,q79z ((Ev.Node.mk x.id x.labels x.props),t,())=some (cmpI x.id t,()):=fun x=>by
  unfold q79z;simp only [i0c,j2r]
 obtain⟨k,h1,h2,h3,h4⟩:=e1n (ρ:=Int×Bool×Unit) g.nodes Ev.Node.id t (fun x=>q79z ((Ev.Node.mk x.id x.labels x.props),t,())) hc (fun i j=>(g.nodes,t,(g.nodes.length:Int),i,j,()))
  (fun rec=>r1t n rec (fun(v10,v11,v12,v13,_)=>
 (bif decide ((v13:Int)<v12)then
 (ix v10 v13).bind fun x14=>
 (q79z ((Ev.Node.mk x14.id x14.labels x14.props),v11,())).bind fun(y15,_)=>some (v13,(y15:Int)==0,())
 else some (v13,false,()))) (fun(_)=>none)) (fun i=>bif decide ((i:Int)< (g.nodes.length:Int))then
 (ix g.nodes i).bind fun x14=>
 (q79z ((Ev.Node.mk x14.id x14.labels x14.props),t,())).bind fun(y15,_)=>some (i,(y15:Int)==0,())
 else some (i,false,())) (fun rec i j=>rfl) hr (by omega) n 0 g.nodes.length (by omega) (by omega) (by omega) (fun q x _ h=>absurd h (by omega)) (fun q x h h' =>by
  obtain⟨h5,_⟩:=k2a.1 h;omega)
 have e0:q2z n (g.nodes,t,())=_:=h1;unfold q95z;dsimp only;rw [e0];by_cases hk:k<g.nodes.length
 ·have e2:ix g.nodes (k:Int)=some g.nodes[k]:=a0k (j2x hk)
  rw [decide_eq_true (by omega),cond_true,e2,j2r,hc,j2r];dsimp only;rw [j2r,z0c];dsimp only;by_cases he:g.nodes[k].id=t
  ·rw [decide_eq_true he]
   exact⟨k,rfl, .inr ⟨by omega,_,e2,x0s hr (l2p hk) he⟩⟩
  ·rw [decide_eq_false he]
   refine⟨-1,rfl, .inl ⟨rfl,n0i hr h2 h3 h4 fun x hx=> ?_⟩⟩;rw [j2x hk]at hx;cases hx;exact he
 ·rw [decide_eq_false (by omega),cond_false,j2r]
  refine⟨-1,rfl, .inl ⟨rfl,n0i hr h2 h3 h4 fun x hx=> ?_⟩⟩;obtain⟨h5,_⟩:=k2a.1 hx;omega
theorem f1f(g:Graph)(t:Int)(n:Nat)(hr:Rise Edg.id g.edges)(hl:g.edges.length≤60)(hn:70≤n): ∃k,q71z n (g,t,())=some (k,())∧Found g.edges (c0m g.edges t) k:=by
 have hc: ∀x:Edg,q60z ((Edg.mk x.id x.src x.dst x.type x.props),t,())=some (cmpI x.id t,()):=fun x=>by
  unfold q60z;simp only [i0c,j2r]
 obtain⟨k,h1,h2,h3,h4⟩:=e1n (ρ:=Int×Bool×Unit) g.edges Edg.id t (fun x=>q60z ((Edg.mk x.id x.src x.dst x.type x.props),t,())) hc (fun i j=>(g.edges,t,(g.edges.length:Int),i,j,()))
  (fun rec=>n1f n rec (fun(v10,v11,v12,v13,_)=>
 (bif decide ((v13:Int)<v12)then
 (ix v10 v13).bind fun x14=>
 (q60z ((Ev.Edg.mk x14.id x14.src x14.dst x14.type x14.props),v11,())).bind fun(y15,_)=>some (v13,(y15:Int)==0,())
 else some (v13,false,()))) (fun(_)=>none)) (fun i=>bif decide ((i:Int)< (g.edges.length:Int))then
 (ix g.edges i).bind fun x14=>
 (q60z ((Ev.Edg.mk x14.id x14.src x14.dst x14.type x14.props),t,())).bind fun(y15,_)=>some (i,(y15:Int)==0,())
 else some (i,false,())) (fun rec i j=>rfl) hr (by omega) n 0 g.edges.length (by omega) (by omega) (by omega) (fun q x _ h=>absurd h (by omega)) (fun q x h h' =>by
  obtain⟨h5,_⟩:=k2a.1 h;omega)
 have e0:q1z n (g.edges,t,())=_:=h1;unfold q71z;dsimp only;rw [e0];by_cases hk:k<g.edges.length
 ·have e2:ix g.edges (k:Int)=some g.edges[k]:=a0k (j2x hk)
  rw [decide_eq_true (by omega),cond_true,e2,j2r,hc,j2r];dsimp only;rw [j2r,z0c];dsimp only;by_cases he:g.edges[k].id=t
  ·rw [decide_eq_true he]
   exact⟨k,rfl, .inr ⟨by omega,_,e2,x0s hr (l2p hk) he⟩⟩
  ·rw [decide_eq_false he]
   refine⟨-1,rfl, .inl ⟨rfl,n0i hr h2 h3 h4 fun x hx=> ?_⟩⟩;rw [j2x hk]at hx;cases hx;exact he
 ·rw [decide_eq_false (by omega),cond_false,j2r]
  refine⟨-1,rfl, .inl ⟨rfl,n0i hr h2 h3 h4 fun x hx=> ?_⟩⟩;obtain⟨h5,_⟩:=k2a.1 hx;omega
end Pure
namespace Pure
open Esp Ev Go
set_option linter.unusedSimpArgs false
set_option linter.unusedVariables false
theorem Graph.eta(g:Graph):Graph.mk g.nodes g.edges g.next=g:=rfl
theorem o0v(g:Graph)(t:Int): ∀(r p:List Ev.Node),g.nodes=p++r→a0c (fun(i:Int) (x:Ev.Node) (s:Unit) (rec:Unit→Option (Option Ev.Node×Unit))=>bif (x.id:Int)==t then(ix g.nodes i).bind fun z=>some (some (Ev.Node.mk z.id z.labels z.props),())else rec s) (fun _=>some (none,())) (p.length:Int) r ()=some (b0d r t,())
 | [],_,_=>rfl
 | x::r,p,hp=>by
  have ih:=o0v g t r (p++ [x]) (by simp [hp]);have e1:((p.length:Int)+1)=((p++ [x]).length:Int):=by simp
  have e2:ix g.nodes (p.length:Int)=some x:=a0k (by rw [hp];simp);rw [a0c,e1,ih,e2];simp only [b0d,List.find?_cons];cases (x.id==t)<;>rfl
theorem j0i(g:Graph)(t:Int)(n:Nat)(hl:g.nodes.length≤40)(hn:50≤n):q43z n (g,t,())=some (b0d g.nodes t,()):=by
 unfold q43z;exact(a0y g.nodes (fun i (s:Unit)=>(t,(g.nodes.length:Int),i,(g,()),())) _ (fun(i:Int) (x:Ev.Node) (s:Unit) (rec:Unit→Option (Option Ev.Node×Unit))=>bif (x.id:Int)==t then(ix g.nodes i).bind fun z=>some (some (Ev.Node.mk z.id z.labels z.props),())else rec s) (fun _=>some (none,()))
  (fun rec i s=>rfl) (by omega) n () (by omega)).trans (o0v g t g.nodes [] rfl)
theorem o0h(g:Graph)(t:Int): ∀(r p:List Edg),g.edges=p++r→a0c (fun(i:Int) (x:Edg) (s:Unit) (rec:Unit→Option (Option Edg×Unit))=>bif (x.id:Int)==t then(ix g.edges i).bind fun z=>some (some (Edg.mk z.id z.src z.dst z.type z.props),())else rec s) (fun _=>some (none,())) (p.length:Int) r ()=some (c0m r t,())
 | [],_,_=>rfl
 | x::r,p,hp=>by
  have ih:=o0h g t r (p++ [x]) (by simp [hp]);have e1:((p.length:Int)+1)=((p++ [x]).length:Int):=by simp
  have e2:ix g.edges (p.length:Int)=some x:=a0k (by rw [hp];simp);rw [a0c,e1,ih,e2];simp only [c0m,List.find?_cons];cases (x.id==t)<;>rfl
theorem z0d(g:Graph)(t:Int)(n:Nat)(hl:g.edges.length≤60)(hn:70≤n):q39z n (g,t,())=some (c0m g.edges t,()):=by
 unfold q39z;exact(a0y g.edges (fun i (s:Unit)=>(t,(g.edges.length:Int),i,(g,()),())) _ (fun(i:Int) (x:Edg) (s:Unit) (rec:Unit→Option (Option Edg×Unit))=>bif (x.id:Int)==t then(ix g.edges i).bind fun z=>some (some (Edg.mk z.id z.src z.dst z.type z.props),())else rec s) (fun _=>some (none,()))
  (fun rec i s=>rfl) (by omega) n () (by omega)).trans (o0h g t g.edges [] rfl)
def orE(a b:Int):Int:=bif a !=0 then a else b
theorem i2r(a b:Int)(n:Nat)(hn:5≤n):q55z n ([a,b],())=some (orE a b,()):=by
 obtain⟨m,rfl⟩: ∃m,n=m+3:=⟨n - 3,by omega⟩;unfold q55z orE;dsimp only;rw [a0a];have h1:i0r (ρ:=Int×Unit) (m+3) (a0a (fun rc9=>i0r (m+3) rc9 (fun x=>some (x.1,())) (fun x=>some (x.1,()))) (m+2)) (fun x=>some (x.1,())) (fun x=>some (x.1,())) (0, [a,b],(([a,b]:List Int).length:Int),0,())=
  bif a !=0 then some (a,())else(a0a (fun rc9=>i0r (m+3) rc9 (fun x=>some (x.1,())) (fun x=>some (x.1,()))) (m+2)) (0, [a,b],(([a,b]:List Int).length:Int),1,()):=rfl
 refine h1.trans ?_;cases ha:a !=0
 ·rw [cond_false,cond_false,a0a]
  have h2:i0r (ρ:=Int×Unit) (m+3) (a0a (fun rc9=>i0r (m+3) rc9 (fun x=>some (x.1,())) (fun x=>some (x.1,()))) (m+1)) (fun x=>some (x.1,())) (fun x=>some (x.1,())) (0, [a,b],(([a,b]:List Int).length:Int),1,())=
   bif b !=0 then some (b,())else some (0,()):=rfl
  refine h2.trans ?_;cases hb:b !=0
  ·have:b=0:=by simpa using hb
   subst this;rfl
  ·rfl
 ·rfl
def nodF:Int→List Ev.Node→Int
 | _, []=>0
 | last,x::r=>bif decide (x.id≤last)then 6 else bif orE (labE x.labels) (prpE x.props) !=0 then orE (labE x.labels) (prpE x.props)else nodF x.id r
def nodL:Int→List Ev.Node→Int
 | last, []=>last
 | _,x::r=>nodL x.id r
def nodB(n:Nat){ρ:Type}(kr:Int×Unit→Option ρ):Int→Ev.Node→Int→(Int→Option ρ)→Option ρ:=fun i x last rec=>bif decide ((x.id:Int)≤last)then kr (6,())else
 (q80z n (x.labels,())).bind fun y8=>(q83z n (x.props,())).bind fun y9=>(q55z n ([y8.1,y9.1],())).bind fun y10=>bif (y10.1:Int) !=0 then kr (y10.1,())else rec x.id
theorem g1h(n:Nat)(hn:60≤n){ρ:Type}(kr:Int×Unit→Option ρ)(k:Int→Option ρ): ∀(l:List Ev.Node) (i last:Int),a0c (nodB n kr) k i l last=bif nodF last l !=0 then kr (nodF last l,())else k (nodL last l)
 | [],_,_=>rfl
 | x::r,i,last=>by
  rw [a0c,nodF,nodL,nodB,p1h x.labels n (by omega),j2r,e1r x.props n (by omega),j2r,i2r _ _ n (by omega),j2r,g1h n hn kr k r (i+1) x.id];dsimp only;cases decide (x.id≤last)
  ·simp only [cond_false]
   cases h:orE (labE x.labels) (prpE x.props) !=0
   ·simp only [cond_false]
   ·simp only [cond_true,h]
  ·rfl
def y1p(n:Nat){ρ:Type}(kr:Int×Unit→Option ρ):Int→Ev.Node→Int×Int→(Int×Int→Option ρ)→Option ρ:=fun i x s rec=>bif decide ((x.id:Int)≤s.2)then kr (6,())else
 (q12z n (x.labels,())).bind fun y9=>bif (y9.1:Int) !=0 then kr (y9.1,())else(q16z n (x.props,())).bind fun y10=>bif (y10.1:Int) !=0 then kr (y10.1,())else rec (x.id,x.id)
theorem x0c(n:Nat)(hn:60≤n){ρ:Type}(kr:Int×Unit→Option ρ)(k:Int×Int→Option ρ): ∀(l:List Ev.Node) (i last:Int),a0c (y1p n kr) k i l (last,last)=bif nodF last l !=0 then kr (nodF last l,())else k (nodL last l,nodL last l)
 | [],_,_=>rfl
 | x::r,i,last=>by
  rw [a0c,nodF,nodL,y1p,h1q x.labels n (by omega),j2r,z0e x.props n (by omega),j2r,x0c n hn kr k r (i+1) x.id];dsimp only;cases decide (x.id≤last)
  ·simp only [cond_false]
   unfold orE;cases h:labE x.labels !=0
   ·simp only [cond_false]
    cases h2:prpE x.props !=0
    ·simp only [cond_false]
    ·simp only [cond_true,h2]
   ·simp only [cond_true,h]
  ·rfl
theorem g0k: ∀{l:List Ev.Node} {last:Int},nodF last l=0→(∀x∈l,last<x.id)∧Rise Ev.Node.id l∧last≤nodL last l
 | [],last,_=>⟨fun x hx=>(by cases hx),List.Pairwise.nil,Int.le_refl _⟩
 | x::r,last,h=>by
  rw [nodF]at h;cases h1:decide (x.id≤last)with
  | true=>rw [h1]at h;cases h
  | false=>
   rw [h1,cond_false]at h;have hlt:=of_decide_eq_false h1;cases h2:orE (labE x.labels) (prpE x.props) !=0 with
   | true=>rw [h2,cond_true]at h;rw [h]at h2;cases h2
   | false=>
    rw [h2,cond_false]at h;obtain⟨i1,i2,i3⟩:=g0k h;refine⟨fun y hy=> ?_,List.pairwise_cons.2 ⟨i1,i2⟩, ?_⟩
    ·rcases k2b.1 hy with rfl | hy
     ·omega
     ·have:=i1 y hy;omega
    ·rw [nodL];omega
def edgF(nodes:List Ev.Node):Int→List Edg→Int
 | _, []=>0
 | last,x::r=>bif decide (x.id≤last)then 6 else bif (b0d nodes x.id).isSome then 6 else bif !(nmB x.type)then 6 else bif (b0d nodes x.src).isNone then 5 else bif (b0d nodes x.dst).isNone then 5 else
  bif prpE x.props !=0 then prpE x.props else edgF nodes x.id r
def edgL:Int→List Edg→Int
 | last, []=>last
 | _,x::r=>edgL x.id r
def topM:Int→List Edg→Int
 | top, []=>top
 | top,x::r=>topM (if x.id>top then x.id else top) r
def edgB(n:Nat)(g:Graph){ρ:Type}(kr:Int×Unit→Option ρ):Int→Edg→Int→(Int→Option ρ)→Option ρ:=fun i x last rec=>bif decide ((x.id:Int)≤last)then kr (6,())else
 (q95z n (g,x.id,())).bind fun y21=>bif decide ((y21.1:Int) ≥0)then kr (6,())else
 (q96z n (x.type,())).bind fun y22=>bif !y22.1 then kr (6,())else
 (q95z n (g,x.src,())).bind fun y23=>bif decide ((y23.1:Int)<0)then kr (5,())else
 (q95z n (g,x.dst,())).bind fun y24=>bif decide ((y24.1:Int)<0)then kr (5,())else
 (q83z n (x.props,())).bind fun y25=>bif (y25.1:Int) !=0 then kr (y25.1,())else rec x.id
theorem f1j(n:Nat)(hn:60≤n)(g:Graph)(hr:Rise Ev.Node.id g.nodes)(hl:g.nodes.length≤40){ρ:Type}(kr:Int×Unit→Option ρ)(k:Int→Option ρ): ∀(l:List Edg) (i last:Int),a0c (edgB n g kr) k i l last=bif edgF g.nodes last l !=0 then kr (edgF g.nodes last l,())else k (edgL last l)
 | [],_,_=>rfl
 | x::r,i,last=>by
  obtain⟨k1,a1,b1⟩:=t0t g x.id n hr hl (by omega);obtain⟨k2,a2,b2⟩:=t0t g x.src n hr hl (by omega);obtain⟨k3,a3,b3⟩:=t0t g x.dst n hr hl (by omega);rw [a0c,edgF,edgL,edgB,a1,j2r,a2,j2r,a3,j2r,e1r x.props n (by omega),j2r,i0n x.type n (by omega),j2r,f1j n hn g hr hl kr k r (i+1) x.id];dsimp only;rw [b1.ge,b2.lt,b3.lt];cases decide (x.id≤last)
  ·cases (b0d g.nodes x.id).isSome
   ·cases !(nmB x.type)
    ·cases (b0d g.nodes x.src).isNone
     ·cases (b0d g.nodes x.dst).isNone
      ·simp only [cond_false]
       cases h:prpE x.props !=0
       ·simp only [cond_false]
       ·simp only [cond_true,h]
      ·rfl
     ·rfl
    ·rfl
   ·rfl
  ·rfl
def x1h(n:Nat)(g:Graph){ρ:Type}(kr:Int×Unit→Option ρ):Int→Edg→Int×Int→(Int×Int→Option ρ)→Option ρ:=fun i x s rec=>bif decide ((x.id:Int)≤s.2)then kr (6,())else
 (q43z n (g,x.id,())).bind fun y21=>optC y21.1 (
 (q41z (x.type,())).bind fun y23=>bif !y23.1 then kr (6,())else
 (q43z n (g,x.src,())).bind fun y24=>optC y24.1 (kr (5,())) (fun z25=>
 (q43z n (g,x.dst,())).bind fun y26=>optC y26.1 (kr (5,())) (fun z27=>
 (q16z n (x.props,())).bind fun y28=>bif (y28.1:Int) !=0 then kr (y28.1,())else rec ((if x.id>s.1 then x.id else s.1),x.id)))) (fun z22=>kr (6,()))
theorem w0n(n:Nat)(hn:60≤n)(g:Graph)(hl:g.nodes.length≤40){ρ:Type}(kr:Int×Unit→Option ρ)(k:Int×Int→Option ρ): ∀(l:List Edg) (i top last:Int),a0c (x1h n g kr) k i l (top,last)=bif edgF g.nodes last l !=0 then kr (edgF g.nodes last l,())else k (topM top l,edgL last l)
 | [],_,_,_=>rfl
 | x::r,i,top,last=>by
  rw [a0c,edgF,edgL,topM,x1h,j0i g x.id n hl (by omega),j2r,j0i g x.src n hl (by omega),j2r,j0i g x.dst n hl (by omega),j2r,z0e x.props n (by omega),j2r,d0y,j2r,
   w0n n hn g hl kr k r (i+1) _ x.id]
  dsimp only;cases decide (x.id≤last)
  ·cases b0d g.nodes x.id with
   | none=>
    cases !(nmB x.type)
    ·cases b0d g.nodes x.src with
     | none=>rfl
     | some z1=>
      cases b0d g.nodes x.dst with
      | none=>rfl
      | some z2=>
       simp only [cond_false,optC,Option.isSome_none,Option.isNone_some];cases h:prpE x.props !=0
       ·simp only [cond_false]
       ·simp only [cond_true,h]
    ·rfl
   | some z=>rfl
  ·rfl
theorem o0k{nodes:List Ev.Node}: ∀{l:List Edg} {last:Int},edgF nodes last l=0→(∀x∈l,last<x.id)∧Rise Edg.id l∧∀top,topM (if last>top then last else top) l=(if edgL last l>top then edgL last l else top)
 | [],last,_=>⟨fun x hx=>(by cases hx),List.Pairwise.nil,fun top=>rfl⟩
 | x::r,last,h=>by
  rw [edgF]at h;cases h1:decide (x.id≤last)with
  | true=>rw [h1]at h;cases h
  | false=>
   rw [h1,cond_false]at h;have hlt:=of_decide_eq_false h1;have h0:edgF nodes x.id r=0:=by
    cases h2:(b0d nodes x.id).isSome with
    | true=>rw [h2]at h;cases h
    | false=>
     cases h3: !(nmB x.type)with
     | true=>rw [h2,h3]at h;cases h
     | false=>
      cases h4:(b0d nodes x.src).isNone with
      | true=>rw [h2,h3,h4]at h;cases h
      | false=>
       cases h5:(b0d nodes x.dst).isNone with
       | true=>rw [h2,h3,h4,h5]at h;cases h
       | false=>
        rw [h2,h3,h4,h5]at h;simp only [cond_false]at h;cases h6:prpE x.props !=0 with
        | true=>rw [h6,cond_true]at h;rw [h]at h6;cases h6
        | false=>rw [h6]at h;exact h
   obtain⟨i1,i2,i3⟩:=o0k h0;refine⟨fun y hy=> ?_,List.pairwise_cons.2 ⟨i1,i2⟩,fun top=> ?_⟩
   ·rcases k2b.1 hy with rfl | hy
    ·omega
    ·have:=i1 y hy;omega
   ·rw [topM,edgL, ←i3 top]
    congr 1;rcases Int.lt_or_le top last with h9 | h9
    ·have e:(if last>top then last else top)=last:=if_pos h9
     rw [e,if_pos (show x.id>last by omega),if_pos (show x.id>top by omega)]
    ·have e:(if last>top then last else top)=top:=if_neg (by omega)
     rw [e]
def maxI(a b:Int):Int:=if a>b then a else b
def chkG(g:Graph):Int:=bif (decide ((g.nodes.length:Int) >40)) || (decide ((g.edges.length:Int) >60))then 2 else bif nodF 0 g.nodes !=0 then nodF 0 g.nodes else bif edgF g.nodes 0 g.edges !=0 then edgF g.nodes 0 g.edges else
 bif (decide ((g.next:Int)≤maxI (edgL 0 g.edges) (nodL 0 g.nodes))) || (decide ((g.next:Int) >1099511627776))then 9 else 0
theorem v0k(g:Graph)(n:Nat)(hn:80≤n):q82z n (g,())=some (chkG g,()):=by
 unfold q82z chkG;dsimp only;cases hb:(decide ((g.nodes.length:Int) >40)) || (decide ((g.edges.length:Int) >60))with
 | true=>rfl
 | false=>
  have h1:=of_decide_eq_false (k2c.1 hb).1;have h2:=of_decide_eq_false (k2c.1 hb).2;rw [cond_false,cond_false];refine(a0y g.nodes (fun i (s:Int)=>(s,g.nodes,(g.nodes.length:Int),i,(g,()),())) _ (nodB n (fun x=>some (x.1,()))) _ (fun rec i s=>rfl) (by omega) n 0 (by omega)).trans ?_;rw [g1h n (by omega)];cases h3:nodF 0 g.nodes !=0 with
  | true=>rfl
  | false=>
   have h30:nodF 0 g.nodes=0:=by simpa using h3
   rw [cond_false,cond_false];refine(a0y g.edges (fun i (s:Int)=>(s,nodL 0 g.nodes,g.edges,(g.edges.length:Int),i,(g,()),())) _ (edgB n g (fun x=>some (x.1,()))) _ (fun rec i s=>rfl) (by omega) n 0 (by omega)).trans ?_;rw [f1j n (by omega) g (g0k h30).2.1 (by omega)];cases h4:edgF g.nodes 0 g.edges !=0 with
   | true=>rfl
   | false=>
    rw [cond_false,cond_false];dsimp only;unfold maxI;cases (decide ((g.next:Int)≤if edgL 0 g.edges>nodL 0 g.nodes then edgL 0 g.edges else nodL 0 g.nodes)) || (decide ((g.next:Int) >1099511627776))<;>rfl
theorem i1w(g:Graph)(n:Nat)(hn:80≤n):q15z n (g,())=some (chkG g,()):=by
 unfold q15z chkG;dsimp only;cases hb:(decide ((g.nodes.length:Int) >40)) || (decide ((g.edges.length:Int) >60))with
 | true=>rfl
 | false=>
  have h1:=of_decide_eq_false (k2c.1 hb).1;have h2:=of_decide_eq_false (k2c.1 hb).2;rw [cond_false,cond_false];refine(a0y g.nodes (fun i (s:Int×Int)=>(s.1,s.2,g.nodes,(g.nodes.length:Int),i,(g,()),())) _ (y1p n (fun x=>some (x.1,()))) _ (fun rec i s=>rfl) (by omega) n (0,0) (by omega)).trans ?_;rw [x0c n (by omega)];cases h3:nodF 0 g.nodes !=0 with
  | true=>rfl
  | false=>
   have h30:nodF 0 g.nodes=0:=by simpa using h3
   rw [cond_false,cond_false];refine(a0y g.edges (fun i (s:Int×Int)=>(s.1,s.2,g.edges,(g.edges.length:Int),i,(g,()),())) _ (x1h n g (fun x=>some (x.1,()))) _ (fun rec i s=>rfl) (by omega) n (nodL 0 g.nodes,0) (by omega)).trans ?_;rw [w0n n (by omega) g (by omega)];cases h4:edgF g.nodes 0 g.edges !=0 with
   | true=>rfl
   | false=>
    have h40:edgF g.nodes 0 g.edges=0:=by simpa using h4
    rw [cond_false,cond_false];dsimp only;have h5:=(o0k h40).2.2 (nodL 0 g.nodes);have h6:=(g0k h30).2.2;rw [if_neg (by omega)]at h5;rw [h5];unfold maxI;cases (decide ((g.next:Int)≤if edgL 0 g.edges>nodL 0 g.nodes then edgL 0 g.edges else nodL 0 g.nodes)) || (decide ((g.next:Int) >1099511627776))<;>rfl
end Pure
namespace Pure
open Esp Ev Go
set_option linter.unusedSimpArgs false
set_option linter.unusedVariables false
theorem d0k{n b:Nat}(h:n≤1000)(hb:b≤1000):room n b=true:=by
 unfold room;rw [j2s];exact⟨k2k (by omega),k2k (by have:n*b≤1000*1000:=Nat.mul_le_mul h hb;omega)⟩
theorem w0l{ρ:Type}(self:Val×Unit→Option (Val×Unit))(k:List Val→Option ρ): ∀(r p:List Val) (i:Int),(∀x∈r,self (x,())=some (x,()))→p.length+r.length≤30→
  a0c (fun(i:Int) (x:Val) (s:List Val) (rec:List Val→Option ρ)=>(self (x,())).bind fun y=>ck (room (s++([y.1]:List Val)).length 56) (rec (s++([y.1]:List Val)))) k i r p=k (p++r)
 | [],p,i,_,_=>by simp [a0c]
 | x::r,p,i,h,hl=>by
  rw [a0c,h x (by simp),j2r];dsimp only;rw [d0h (d0k (by simp at hl⊢;omega) (by omega)),w0l self k r (p++ [x]) (i+1) (fun y hy=>h y (by simp [hy])) (by simp at hl⊢;omega)];simp
theorem c1v(v:Val): ∀(d:Int) (n:Nat),1≤d→d≤7→40≤n+d.toNat→chk v d=0→l0d n (v,())=some (v,()):=by
 induction v using e0t with
 | _ k a s l ih=>
  intro d n h1 h2 h3 hc;obtain⟨m,rfl⟩: ∃m,n=m+1:=⟨n - 1,by omega⟩;have key:l.length≤30→(∀x∈l,l0d m (x,())=some (x,()))→l0d (m+1) (.mk k a s l,())=some (.mk k a s l,()):=by
   intro hl hs;rw [l0d];unfold z0y;dsimp+instances only [a0t,n_mk,s_mk,l_mk];refine(a0y l (fun i (s0:List Val)=>(l,(l.length:Int),i,(k,a,s,()),((Ev.Val.mk 0 0 (⟨#[]⟩:ByteArray) ([]:List Ev.Val)),()),s0,())) _ (fun(i:Int) (x:Val) (s:List Val) rec=>(l0d m (x,())).bind fun y=>ck (room (s++([y.1]:List Val)).length 56) (rec (s++([y.1]:List Val)))) (fun s0=>some (.mk k a s s0,()))
    (fun rec i s=>by simp only [t0p,Val.eta]) (by omega) m [] (by omega)).trans ?_
   rw [w0l _ _ l [] 0 hs (by simpa using hl)];rfl
  rw [chk]at hc;have nil: ∀{x:Bool},fin6 (x&& ((l.length:Int)==0))=0→l= []:=fun{x} h=>by
   have:=r0h h;rw [j2s]at this;simpa using this.2
  have key0:l= []→l0d (m+1) (.mk k a s l,())=some (.mk k a s l,()):=fun h=>key (by rw [h];simp) (by rw [h];intro x hx;cases hx);cases h0:k==0
  ·rw [h0]at hc
   cases h1:k==1
   ·rw [h1]at hc
    cases h2:k==2
    ·rw [h2]at hc
     cases h3:k==3
     ·rw [h3]at hc
      cases h4:k==4
      ·rw [h4]at hc;cases hc
      ·rw [h4]at hc
       simp only [cond_false,cond_true]at hc;cases hb:decide ((l.length:Int) >30) || decide (d>6)
       ·rw [hb]at hc
        have hb2:=k2c.1 hb;have h30:=of_decide_eq_false hb2.1;have h6:=of_decide_eq_false hb2.2;simp only [cond_false]at hc;cases hcc:chks l (d+1) !=0
        ·have hc0:chks l (d+1)=0:=by simpa using hcc
         exact key (by omega) fun x hx=>ih x hx (d+1) m (by omega) (by omega) (by omega) (w1w hc0 x hx)
        ·rw [hcc]at hc
         have h0:chks l (d+1)=0:=hc;simp [h0]at hcc
       ·rw [hb]at hc;cases hc
     ·rw [h3]at hc
      simp only [cond_false,cond_true]at hc;cases hb:decide ((s.size:Int) >4000)
      ·rw [hb]at hc
       simp only [cond_false]at hc;cases ha:a==0
       ·rw [ha]at hc;cases hc
       ·rw [ha]at hc
        exact key0 (nil hc)
      ·rw [hb]at hc;cases hc
    ·rw [h2]at hc
     exact key0 (nil hc)
   ·rw [h1]at hc
    exact key0 (nil hc)
  ·rw [h0]at hc
   exact key0 (nil hc)
theorem w1f: ∀{l:List Prp} {prev:ByteArray},prpF prev l=0→∀x∈l,chk x.val 1=0
 | [],_,_=>fun x hx=>(by cases hx)
 | y::r,prev,h=>by
  rw [prpF]at h;cases h1:((!(nmB y.name)) || (c0w y.name prev || seq y.name prev)) || (y.val.kind==0)with
  | true=>rw [h1]at h;cases h
  | false=>
   rw [h1,cond_false]at h;cases h2:chk y.val 1 !=0 with
   | true=>rw [h2,cond_true]at h;rw [h]at h2;cases h2
   | false=>
    rw [h2]at h;have h0:chk y.val 1=0:=by simpa using h2
    intro x hx;rcases k2b.1 hx with rfl | hx
    ·exact h0
    ·exact w1f h x hx
theorem w1r{l:List Prp}(h:prpE l=0):l.length≤6∧∀x∈l,chk x.val 1=0:=by
 unfold prpE at h;cases h1:decide ((l.length:Int) >6)with
 | true=>rw [h1]at h;cases h
 | false=>
  rw [h1]at h;have:=of_decide_eq_false h1;exact⟨by omega,w1f h⟩
theorem f1y: ∀{l:List Ev.Node} {last:Int},nodF last l=0→∀x∈l,labE x.labels=0∧prpE x.props=0
 | [],_,_=>fun x hx=>(by cases hx)
 | y::r,last,h=>by
  rw [nodF]at h;cases h1:decide (y.id≤last)with
  | true=>rw [h1]at h;cases h
  | false=>
   rw [h1,cond_false]at h;cases h2:orE (labE y.labels) (prpE y.props) !=0 with
   | true=>rw [h2,cond_true]at h;rw [h]at h2;cases h2
   | false=>
    rw [h2]at h;have h0:orE (labE y.labels) (prpE y.props)=0:=by simpa using h2
    unfold orE at h0;intro x hx;rcases k2b.1 hx with rfl | hx
    ·cases h3:labE x.labels !=0 with
     | true=>rw [h3,cond_true]at h0;rw [h0]at h3;cases h3
     | false=>rw [h3]at h0;exact⟨by simpa using h3,h0⟩
    ·exact f1y h x hx
theorem e1c{nodes:List Ev.Node}: ∀{l:List Edg} {last:Int},edgF nodes last l=0→∀x∈l,prpE x.props=0∧(b0d nodes x.id).isSome=false∧(b0d nodes x.src).isNone=false∧(b0d nodes x.dst).isNone=false
 | [],_,_=>fun x hx=>(by cases hx)
 | y::r,last,h=>by
  rw [edgF]at h;cases h1:decide (y.id≤last)with
  | true=>rw [h1]at h;cases h
  | false=>
   cases h2:(b0d nodes y.id).isSome with
   | true=>rw [h1,h2]at h;cases h
   | false=>
    cases h3: !(nmB y.type)with
    | true=>rw [h1,h2,h3]at h;cases h
    | false=>
     cases h4:(b0d nodes y.src).isNone with
     | true=>rw [h1,h2,h3,h4]at h;cases h
     | false=>
      cases h5:(b0d nodes y.dst).isNone with
      | true=>rw [h1,h2,h3,h4,h5]at h;cases h
      | false=>
       rw [h1,h2,h3,h4,h5]at h;simp only [cond_false]at h;cases h6:prpE y.props !=0 with
       | true=>rw [h6,cond_true]at h;rw [h]at h6;cases h6
       | false=>
        rw [h6]at h;intro x hx;rcases k2b.1 hx with rfl | hx
        ·exact⟨by simpa using h6,h2,h4,h5⟩
        ·exact e1c h x hx
theorem f0c{g:Graph}(h:chkG g=0):g.nodes.length≤40∧g.edges.length≤60∧nodF 0 g.nodes=0∧edgF g.nodes 0 g.edges=0:=by
 unfold chkG at h;cases hb:(decide ((g.nodes.length:Int) >40)) || (decide ((g.edges.length:Int) >60))with
 | true=>rw [hb]at h;cases h
 | false=>
  have h1:=of_decide_eq_false (k2c.1 hb).1;have h2:=of_decide_eq_false (k2c.1 hb).2;rw [hb,cond_false]at h;cases h3:nodF 0 g.nodes !=0 with
  | true=>rw [h3,cond_true]at h;rw [h]at h3;cases h3
  | false=>
   rw [h3,cond_false]at h;cases h4:edgF g.nodes 0 g.edges !=0 with
   | true=>rw [h4,cond_true]at h;rw [h]at h4;cases h4
   | false=>exact⟨by omega,by omega,by simpa using h3,by simpa using h4⟩
def x0h:Val:= .mk 0 0 ⟨#[]⟩ []
def f0l:List Prp→ByteArray→Val
 | [],_=>x0h
 | x::r,s=>bif seq x.name s then x.val else f0l r s
theorem r0i(s:ByteArray): ∀l:List Prp,f0l l s=x0h∨∃x∈l,f0l l s=x.val
 | []=> .inl rfl
 | x::r=>by
  rw [f0l];cases seq x.name s
  ·rcases r0i s r with h | ⟨y,h1,h2⟩
   ·exact .inl h
   ·exact .inr ⟨y,by simp [h1],h2⟩
  ·exact .inr ⟨x,by simp,rfl⟩
theorem g1q(n:Nat)(hn:40≤n)(s:ByteArray)(k:Unit→Option (Val×Unit))(hk:k ()=some (x0h,())): ∀(l:List Prp) (i:Int),(∀x∈l,chk x.val 1=0)→a0c (fun(i:Int) (x:Prp) (u:Unit) (rec:Unit→Option (Val×Unit))=>bif seq x.name s then(l0d n (x.val,())).bind fun y=>some (y.1,())else rec u) k i l ()=some (f0l l s,())
 | [],i,_=>hk
 | x::r,i,h=>by
  rw [a0c,f0l,c1v x.val 1 n (by omega) (by omega) (by omega) (h x (by simp)),j2r,g1q n hn s k hk r (i+1) fun y hy=>h y (by simp [hy])];cases seq x.name s<;>rfl
theorem w1q(l:List Prp)(s:ByteArray)(n:Nat)(hn:40≤n)(hl:l.length≤6)(h: ∀x∈l,chk x.val 1=0):h0r n (l,s,())=some (f0l l s,()):=by
 unfold h0r;exact(a0y l (fun i (u:Unit)=>(s,l,(l.length:Int),i,(x0h,()),())) _ (fun(i:Int) (x:Prp) (u:Unit) (rec:Unit→Option (Val×Unit))=>bif seq x.name s then(l0d n (x.val,())).bind fun y=>some (y.1,())else rec u) (fun _=>some (x0h,()))
  (fun rec i u=>by simp only [g0m,Val.eta];rfl) (by omega) n () (by omega)).trans (g1q n hn s _ rfl l 0 h)
theorem o0n(s:ByteArray)(k:Unit→Option (Val×Unit))(hk:k ()=some (x0h,())): ∀(l:List Prp) (i:Int),a0c (fun(i:Int) (x:Prp) (u:Unit) (rec:Unit→Option (Val×Unit))=>bif seq x.name s then some (x.val,())else rec u) k i l ()=some (f0l l s,())
 | [],i=>hk
 | x::r,i=>by
  rw [a0c,f0l,o0n s k hk r (i+1)];cases seq x.name s<;>rfl
theorem y0o(l:List Prp)(s:ByteArray)(n:Nat)(hn:40≤n)(hl:l.length≤6):q44z n (l,s,())=some (f0l l s,()):=by
 unfold q44z;exact(a0y l (fun i (u:Unit)=>(s,l,(l.length:Int),i,(x0h,()),())) _ (fun(i:Int) (x:Prp) (u:Unit) (rec:Unit→Option (Val×Unit))=>bif seq x.name s then some (x.val,())else rec u) (fun _=>some (x0h,()))
  (fun rec i u=>by simp only [b1z,Val.eta];rfl) (by omega) n () (by omega)).trans (o0n s _ rfl l 0)
theorem r0r{l:List Ev.Node}{t:Int}{x:Ev.Node}(h:b0d l t=some x):x∈l:=List.mem_of_find?_eq_some h
theorem l0l{l:List Edg}{t:Int}{x:Edg}(h:c0m l t=some x):x∈l:=List.mem_of_find?_eq_some h
end Pure
namespace Pure
open Esp Ev Go
set_option linter.unusedSimpArgs false
set_option linter.unusedVariables false
def hasL(l:List ByteArray)(s:ByteArray):Bool:=l.any fun x=>seq s x
theorem r0g(s:ByteArray)(k:Unit→Option Y10)(hk:k ()=some (-1,())): ∀(l:List ByteArray) (i:Int),0≤i→∃j,a0c (fun(i:Int) (x:ByteArray) (u:Unit) (rec:Unit→Option Y10)=>bif seq s x then some (i,())else rec u) k i l ()=some (j,())∧decide (j≥0)=hasL l s
 | [],i,_=>⟨-1,hk,rfl⟩
 | x::r,i,hi=>by
  obtain⟨j,h1,h2⟩:=r0g s k hk r (i+1) (by omega);rw [a0c,h1];unfold hasL at h2⊢;rw [List.any_cons];cases seq s x
  ·exact⟨j,rfl,by rw [h2];rfl⟩
  ·exact⟨i,rfl,by simpa using hi⟩
end Pure

import Derived.Test.YtnaeiccibhdknaaGreatDoorPMX
set_option linter.unusedSimpArgs false
set_option linter.unusedVariables false
noncomputable section
namespace Pure
open Esp Ev Go
mutual
def putL:Val->List UInt8
 |.mk k n s l=>
  if k=1\/k=2 then UInt8.ofNat k.toNat::numB (n+9223372036854775808) 8
  else if k=3 then 3::(numB (s.size:Int) 2++s.data.toList)
  else if k=4 then 4::UInt8.ofNat l.length::i0e l
  else [UInt8.ofNat k.toNat]
def i0e:List Val->List UInt8
 |[]=>[]
 |x::r=>putL x++i0e r
end
def top(d:Int):Nat:=4003*31 ^ (7 - d).toNat
theorem r0s(d:Int):4003<=top d:=by
 unfold top;have:1<=31 ^ (7 - d).toNat:=Nat.pow_pos (by decide);omega
theorem z1a(d:Int)(h:d<=6):top d=31*top (d+1):=by
 unfold top;rw[show(7 - d).toNat=(7 - (d+1)).toNat+1 by omega,Nat.pow_succ];omega
theorem i1v(l:List Val)(b:Nat)(h:∀x∈l,(putL x).length<=b):(i0e l).length<=l.length*b:=by
 induction l with
 |nil=>simp[i0e]
 |cons x r ih=>
  have h1:=h x (by simp);have h2:=ih λy hy=>h y (by simp[hy]);rw[i0e,r2t,r2w,t2w];omega
theorem j2s{v:Val}{d:Int}(h:Right v d):(putL v).length<=top d:=by
 induction h with
 |null d=>have:=r0s d;simp[putL];omega
 |truth n d h=>have:=r0s d;simp[putL,c0w];omega
 |int n d h=>have:=r0s d;simp[putL,c0w];omega
 |text s d h1 h2=>
  have:=r0s d;have e:s.data.size=s.size:=rfl;simp[putL,c0w];omega
 |list l d h1 h2 h3 ih=>
  have:=i1v l _ ih;have h4:=z1a d h2;have h5:=r0s (d+1);have h6:l.length*top (d+1)<=30*top (d+1):=t2b _ h1;simp[putL];omega
theorem h1t{ρ:Type}(n:Nat)(a:Int)(kx:List Int×Unit->Option ρ)(kr:Unit->Option ρ):
  ∀(s:Nat) (o:List UInt8) (fuel:Nat),s<fuel->s<=8->o.length+s<=140737488355328->
   a0a (λrc=>r0l n rc kx kr) fuel (a,(s:Int) - 1,bi o,())=kx (bi (o++numB a s),()):=by
 intro s
 induction s with
 |zero=>
  intro o fuel hf hs ho;obtain⟨m,rfl⟩:∃m,fuel=m+1:=⟨fuel - 1,by omega⟩;rw[a0a];simp only[r0l];rw[show decide (((0:Nat):Int) - 1>=0)=false by decide];simp[numB]
 |succ s ih=>
  intro o fuel hf hs ho;obtain⟨m,rfl⟩:∃m,fuel=m+1:=⟨fuel - 1,by omega⟩;rw[a0a];simp only[r0l];have e0:(((s+1:Nat):Int) - 1)=(s:Int):=by omega
  rw[e0,show decide ((s:Int) >=0)=true by rw[decide_eq_true_iff];omega];have e1:wI (8*(s:Int))=8*(s:Int):=a0f (by omega) (by omega);have e2:wI ((s:Int) - 1)=(s:Int) - 1:=a0f (by omega) (by omega);have e3:h1x (8*(s:Int))=some (8*(s:Int)):=by unfold h1x;rw[if_pos (by omega)]
  have e4:bi o++ [((c1b a (8*(s:Int))).toNat:Int)]=bi (o++ [c1b a (8*(s:Int))]):=by rw[o1z];rfl
  simp only[u2j,e1,e2,e3,r2g,s1g,e4];rw[b0v (c1u (by rw[d0o];simp;omega)),ih _ _ (by omega) (by omega) (by simp;omega)];simp[numB]
theorem r0u(n:Nat)(a:Int)(s:Nat)(o:List UInt8)(hn:10<=n)(hs:s<=8)(ho:o.length+s<=140737488355328):q92z n (a,(s:Int),bi o,())=some (bi (o++numB a s),()):=by
 simp only[q92z];rw[a0f (by omega) (by omega)];exact h1t n a _ _ s o n (by omega) hs ho
theorem c2f{ρ:Type}(self:Val×List Int×Unit->Option (List Int×Unit))(n:Nat)(l:List Val)(kx:List Int×Unit->Option ρ)(kr:Unit->Option ρ)(hl:l.length<=30)
  (hs:∀x∈l,∀o:List UInt8,o.length+(putL x).length<=140737488355328->self (x,bi o,())=some (bi (o++putL x),())):
  ∀(r p:List Val),l=p++r->∀(fuel:Nat) (o:List UInt8),r.length<fuel->o.length+(i0e r).length<=140737488355328->
   a0a (λrc=>e0l self n rc kx kr) fuel (l,(l.length:Int),(p.length:Int),bi o,())=kx (bi (o++i0e r),()):=by
 intro r
 induction r with
 |nil=>
  intro p hp fuel o hf ho;obtain⟨m,rfl⟩:∃m,fuel=m+1:=⟨fuel - 1,by omega⟩;have e:decide ((p.length:Int)<(l.length:Int))=false:=by rw[decide_eq_false_iff_not];subst hp;simp
  rw[a0a];simp only[e0l,e,u2k,i0e,s2a]
 |cons y r ih=>
  intro p hp fuel o hf ho;obtain⟨m,rfl⟩:∃m,fuel=m+1:=⟨fuel - 1,by omega⟩;have hlen:l.length=p.length+(r.length+1):=by rw[hp];simp
  have e:decide ((p.length:Int)<(l.length:Int))=true:=by rw[decide_eq_true_iff];omega
  have e2:ix l (p.length:Int)=some y:=a0r (by rw[hp];simp);have e3:wI ((p.length:Int)+1)=((p++ [y]).length:Int):=by rw[a0f (by omega) (by omega)];simp
  have ho2:o.length+((putL y).length+(i0e r).length)<=140737488355328:=by simpa[i0e]using ho
  have e4:=hs y (by rw[hp];simp) o (by omega);have e5:=ih (p++ [y]) (by simp[hp]) m (o++putL y) (by simp at hf;omega) (by simp;omega);rw[a0a];simp only[e0l,Val.eta,e,e2,e3,e4,u2j,r2g];rw[e5,i0e,s2t]
theorem n0q(o:List UInt8)(k:Int)(h0:0<=k)(h1:k<=255):bi o++ [IntKind.wrap .u8 k]=bi (o++ [UInt8.ofNat k.toNat]):=by
 have e:bi [UInt8.ofNat k.toNat]=[k]:=by
  rw[w0p,k2v,UInt8.toNat_ofNat_of_lt' (by show _<256;omega)];congr 1;omega
 rw[o1z,q2a h0 h1,e]
theorem n2l{v:Val}{d:Int}(h:Right v d):∀(n:Nat) (o:List UInt8),1<=d->d<=7->40<=n+d.toNat->o.length+(putL v).length<=140737488355328->d0k n (v,bi o,())=some (bi (o++putL v),()):=by
 induction h with
 |null d=>
  intro n o h1 h2 hn ho;obtain⟨m,rfl⟩:∃m,n=m+1:=⟨n - 1,by omega⟩;simp[putL]at ho;rw[d0k];unfold e0k;simp only[b0e];rw[n0q o 0 (by omega) (by omega),b0v (c1u (by rw[d0o];simp;omega))];rfl
 |truth a d h=>
  intro n o h1 h2 hn ho;obtain⟨m,rfl⟩:∃m,n=m+1:=⟨n - 1,by omega⟩;simp[putL,c0w]at ho;rw[d0k];unfold e0k;simp only[b0e,n_mk];rw[n0q o 1 (by omega) (by omega),b0v (c1u (by rw[d0o];simp;omega)),i1m a (by omega) (by omega)];have:=r0u m (a+9223372036854775808) 8 (o++ [UInt8.ofNat (1:Int).toNat]) (by omega) (by omega) (by simp;omega);rw[show((8:Nat):Int)=8 from rfl]at this
  rw[show((1:Int)==1)=true from rfl,u2j,u2j,this]
  simp[putL]
 |int a d h=>
  intro n o h1 h2 hn ho;obtain⟨m,rfl⟩:∃m,n=m+1:=⟨n - 1,by omega⟩;simp[putL,c0w]at ho;have hr: -9223372036854775808<=a/\a<=9223372036854775807:=by
   unfold wfI Lit.wf at h;simp[IntKind.bits,IntKind.signed,IntKind.min,IntKind.max]at h;omega
  rw[d0k];unfold e0k;simp only[b0e,n_mk];rw[n0q o 2 (by omega) (by omega),b0v (c1u (by rw[d0o];simp;omega)),i1m a (by omega) (by omega)];have:=r0u m (a+9223372036854775808) 8 (o++ [UInt8.ofNat (2:Int).toNat]) (by omega) (by omega) (by simp;omega);rw[show((8:Nat):Int)=8 from rfl]at this
  rw[show((2:Int)==1)=false from rfl,show((2:Int)==2)=true from rfl,u2k,u2j,this]
  simp[putL]
 |text s d h3 h4=>
  intro n o h1 h2 hn ho;obtain⟨m,rfl⟩:∃m,n=m+1:=⟨n - 1,by omega⟩;have e:s.data.size=s.size:=rfl;simp[putL,c0w]at ho;rw[d0k];unfold e0k;simp only[b0e,s_mk];rw[n0q o 3 (by omega) (by omega),b0v (c1u (by rw[d0o];simp;omega)),n0o (x:=(s.size:Int)) (by omega) (by omega)];have:=r0u m (s.size:Int) 2 (o++ [UInt8.ofNat (3:Int).toNat]) (by omega) (by omega) (by simp;omega);rw[show((2:Nat):Int)=2 from rfl]at this
  rw[show((3:Int)==1)=false from rfl,show((3:Int)==2)=false from rfl,show((3:Int)==3)=true from rfl,u2k,u2k,u2j,this]
  simp only[r2g,w1f];rw [<-o1z,b0v (c1u (by rw[d0o];simp[c0w];omega))];simp[putL]
 |list l d h3 h4 h5 ih=>
  intro n o h1 h2 hn ho;obtain⟨m,rfl⟩:∃m,n=m+1:=⟨n - 1,by omega⟩;simp[putL]at ho;rw[d0k];unfold e0k;simp only[b0e,l_mk];rw[n0q o 4 (by omega) (by omega),b0v (c1u (by rw[d0o];simp;omega)),n0q _ (l.length:Int) (by omega) (by omega)];rw[show((4:Int)==1)=false from rfl,show((4:Int)==2)=false from rfl,show((4:Int)==3)=false from rfl,show((4:Int)==4)=true from rfl]
  simp only[u2k,u2j];rw[b0v (c1u (by rw[d0o];simp;omega))];have:=c2f (d0k m) m l (λ(pY,_)=>some (pY,())) (λ(_)=>none) h3 (λx hx o ho=>ih x hx m o (by omega) (by omega) (by omega) ho) l [] rfl m (o++ [UInt8.ofNat (4:Int).toNat]++ [UInt8.ofNat (l.length:Int).toNat]) (by omega) (by simp;omega);refine this.trans ?_;simp[putL]
def b0w{α:Type}(cmp:Nat->α×α×Unit->Option Y5){ρ:Type}(n:Nat)(rec:Int×Int×Int×Int×(List α)×Unit->Option ρ)(kx:Int×Int×Int×(List α)×Unit->Option ρ)(kr:Unit->Option ρ):Int×Int×Int×Int×(List α)×Unit->Option ρ:=
 λ(v8,v9,v10,v11,dH,_)=>
 (bif decide ((v11:Int) >v8)then
 (ix dH v11).bind λ_=>
 ((dH)[(v11:Int).toNat]?).bind λe13=>
 (ix dH (wI (v11 - 1))).bind λ_=>
 ((dH)[(wI (v11 - 1):Int).toNat]?).bind λe14=>
 (cmp n (e13,e14,())).bind λ(gF,_)=>
 (bif decide ((gF:Int)<0)then
 (ix dH (wI (v11 - 1))).bind λ_=>
 ((dH)[(wI (v11 - 1):Int).toNat]?).bind λe20=>
 (ix dH v11).bind λ_=>
 ((dH)[(v11:Int).toNat]?).bind λe21=>
 (ix dH v11).bind λ_=>
 ((dH)[(v11:Int).toNat]?).bind λe22=>
 (ix ((dH).set ((v11:Int).toNat) e20) (wI (v11 - 1))).bind λ_=>
 (((dH).set ((v11:Int).toNat) e20)[(wI (v11 - 1):Int).toNat]?).bind λe23=>rec (v8,v9,v10,wI (v11 - 1),((dH).set ((v11:Int).toNat) e20).set ((wI (v11 - 1):Int).toNat) e21,())
 else kx (v8,v9,v10,dH,()))
 else kx (v8,v9,v10,dH,()))
def a0y{α:Type}(cmp:Nat->α×α×Unit->Option Y5){ρ:Type}(n:Nat)(rec:Int×Int×Int×(List α)×Unit->Option ρ)(kx:(List α)×Unit->Option ρ)(kr:Unit->Option ρ):Int×Int×Int×(List α)×Unit->Option ρ:=
 λ(v4,v5,v6,o7,_)=>
 (bif decide ((v6:Int)<v5)then
 a0a (λiF=>b0w cmp n iF (λ(v24,v25,v26,iR,_)=>rec (v24,v25,wI (v26+1),iR,())) (λ(_)=>none)) (n) (v4,v5,v6,v6,o7,())
 else kx (o7,()))
def b0z{α:Type}(cmp:Nat->α×α×Unit->Option Y5)(n:Nat):Int×Int×(List α)×Unit->Option ((List α)×Unit):=
 λ(a1,a2,o3,_)=>
 a0a (λcI=>a0y cmp n cI (λ(gw,_)=>some (gw,())) (λ(_)=>none)) (n) (a1,a2,wI (a1+1),o3,())
def e0o{α:Type}{ρ:Type}(n:Nat)(rec:Int×Int×Int×Int×(List α)×Unit->Option ρ)(kx:(List α)×Unit->Option ρ)(kr:Unit->Option ρ):Int×Int×Int×Int×(List α)×Unit->Option ρ:=
 λ(v5,v6,v7,v8,o9,_)=>
 (bif decide ((v8:Int)<v7)then
 (ix o9 (wI (v6+v8))).bind λ_=>
 ((o9)[(wI (v6+v8):Int).toNat]?).bind λe14=>
 (ix o9 (wI (v5+v8))).bind λ_=>
 ((o9)[(wI (v5+v8):Int).toNat]?).bind λe15=>
 (ix o9 (wI (v5+v8))).bind λ_=>
 ((o9)[(wI (v5+v8):Int).toNat]?).bind λe16=>
 (ix ((o9).set ((wI (v5+v8):Int).toNat) e14) (wI (v6+v8))).bind λ_=>
 (((o9).set ((wI (v5+v8):Int).toNat) e14)[(wI (v6+v8):Int).toNat]?).bind λe17=>rec (v5,v6,v7,wI (v8+1),((o9).set ((wI (v5+v8):Int).toNat) e14).set ((wI (v6+v8):Int).toNat) e15,())
 else kx (o9,()))
def e0j{α:Type}(n:Nat):Int×Int×Int×(List α)×Unit->Option ((List α)×Unit):=
 λ(a1,a2,a3,o4,_)=>
 a0a (λmC=>e0o n mC (λ(o18,_)=>some (o18,())) (λ(_)=>none)) (n) (a1,a2,a3,0,o4,())
def f0k{α:Type}{ρ:Type}(n:Nat)(rec:Int×Int×Int×(List α)×Unit->Option ρ)(kx:Int×Int×(List α)×Unit->Option ρ)(kr:Unit->Option ρ):Int×Int×Int×(List α)×Unit->Option ρ:=
 λ(v5,v6,v7,o8,_)=>
 (bif (v6:Int) !=v7 then
 (bif decide ((v6:Int) >v7)then
 (e0j n (wI (v5 - v6),v5,v7,o8,())).bind λ(o9,_)=>rec (v5,wI (v6 - v7),v7,o9,())
 else
 (e0j n (wI (v5 - v6),wI ((wI (v5+v7)) - v6),v6,o8,())).bind λ(iM,_)=>rec (v5,v6,wI (v7 - v6),iM,()))
 else kx (v5,v6,o8,()))
def h0r{α:Type}(n:Nat):Int×Int×Int×(List α)×Unit->Option ((List α)×Unit):=
 λ(a1,a2,a3,o4,_)=>
 a0a (λiA=>f0k n iA (λ(v11,v12,iS,_)=>
 (e0j n (wI (v11 - v12),v11,v12,iS,())).bind λ(mg,_)=>some (mg,())) (λ(_)=>none)) (n) (a2,wI (a2 - a1),wI (a3 - a2),o4,())
def d0h{α:Type}(cmp:Nat->α×α×Unit->Option Y5){ρ:Type}(aB:Int×Int×Int×(List α)×Unit->Option ((List α)×Unit))(n:Nat)(rec:Int×Int×Int×(List α)×Unit->Option ρ)(kx:Int×Int×(List α)×Unit->Option ρ)(kr:Unit->Option ρ):Int×Int×Int×(List α)×Unit->Option ρ:=
 λ(v5,v6,v7,o8,_)=>
 (bif decide ((v6:Int)<v7)then
 (ix o8 (wI (bshr .u64 (IntKind.wrap .u64 (wI (v6+v7))) 1))).bind λ_=>
 ((o8)[(wI (bshr .u64 (IntKind.wrap .u64 (wI (v6+v7))) 1):Int).toNat]?).bind λe11=>
 (ix o8 v5).bind λ_=>
 ((o8)[(v5:Int).toNat]?).bind λe12=>
 (cmp n (e11,e12,())).bind λ(qo,_)=>
 (bif decide ((qo:Int)<0)then rec (v5,wI ((wI (bshr .u64 (IntKind.wrap .u64 (wI (v6+v7))) 1))+1),v7,o8,())
 else rec (v5,v6,wI (bshr .u64 (IntKind.wrap .u64 (wI (v6+v7))) 1),o8,()))
 else kx (v5,v6,o8,()))
def b0m{α:Type}{ρ:Type}(aB:Int×Int×Int×(List α)×Unit->Option ((List α)×Unit))(n:Nat)(rec:Int×Int×(List α)×Unit->Option ρ)(kx:(List α)×Unit->Option ρ)(kr:Unit->Option ρ):Int×Int×(List α)×Unit->Option ρ:=
 λ(v17,cW,o19,_)=>
 (bif decide ((cW:Int)<(wI (v17 - 1)))then
 (ix o19 (wI (cW+1))).bind λ_=>
 ((o19)[(wI (cW+1):Int).toNat]?).bind λe24=>
 (ix o19 cW).bind λ_=>
 ((o19)[(cW:Int).toNat]?).bind λe25=>
 (ix o19 cW).bind λ_=>
 ((o19)[(cW:Int).toNat]?).bind λe26=>
 (ix ((o19).set ((cW:Int).toNat) e24) (wI (cW+1))).bind λ_=>
 (((o19).set ((cW:Int).toNat) e24)[(wI (cW+1):Int).toNat]?).bind λe27=>rec (v17,wI (cW+1),((o19).set ((cW:Int).toNat) e24).set ((wI (cW+1):Int).toNat) e25,())
 else kx (o19,()))
def d0s{α:Type}(cmp:Nat->α×α×Unit->Option Y5){ρ:Type}(aB:Int×Int×Int×(List α)×Unit->Option ((List α)×Unit))(n:Nat)(rec:Int×Int×Int×(List α)×Unit->Option ρ)(kx:Int×Int×(List α)×Unit->Option ρ)(kr:Unit->Option ρ):Int×Int×Int×(List α)×Unit->Option ρ:=
 λ(v31,v32,v33,iL,_)=>
 (bif decide ((v32:Int)<v33)then
 (ix iL v31).bind λ_=>
 ((iL)[(v31:Int).toNat]?).bind λe37=>
 (ix iL (wI (bshr .u64 (IntKind.wrap .u64 (wI (v32+v33))) 1))).bind λ_=>
 ((iL)[(wI (bshr .u64 (IntKind.wrap .u64 (wI (v32+v33))) 1):Int).toNat]?).bind λe38=>
 (cmp n (e37,e38,())).bind λ(qe,_)=>
 (bif !(decide ((qe:Int)<0))then rec (v31,wI ((wI (bshr .u64 (IntKind.wrap .u64 (wI (v32+v33))) 1))+1),v33,iL,())
 else rec (v31,v32,wI (bshr .u64 (IntKind.wrap .u64 (wI (v32+v33))) 1),iL,()))
 else kx (v31,v32,iL,()))
def b0p{α:Type}{ρ:Type}(aB:Int×Int×Int×(List α)×Unit->Option ((List α)×Unit))(n:Nat)(rec:Int×Int×(List α)×Unit->Option ρ)(kx:(List α)×Unit->Option ρ)(kr:Unit->Option ρ):Int×Int×(List α)×Unit->Option ρ:=
 λ(v43,v44,fM,_)=>
 (bif decide ((v44:Int) >v43)then
 (ix fM (wI (v44 - 1))).bind λ_=>
 ((fM)[(wI (v44 - 1):Int).toNat]?).bind λe50=>
 (ix fM v44).bind λ_=>
 ((fM)[(v44:Int).toNat]?).bind λe51=>
 (ix fM v44).bind λ_=>
 ((fM)[(v44:Int).toNat]?).bind λe52=>
 (ix ((fM).set ((v44:Int).toNat) e50) (wI (v44 - 1))).bind λ_=>
 (((fM).set ((v44:Int).toNat) e50)[(wI (v44 - 1):Int).toNat]?).bind λe53=>rec (v43,wI (v44 - 1),((fM).set ((v44:Int).toNat) e50).set ((wI (v44 - 1):Int).toNat) e51,())
 else kx (fM,()))
def c0g{α:Type}(cmp:Nat->α×α×Unit->Option Y5){ρ:Type}(aB:Int×Int×Int×(List α)×Unit->Option ((List α)×Unit))(n:Nat)(rec:Int×Int×Int×Int×Int×Int×Int×Int×(List α)×Unit->Option ρ)(kx:Int×Int×Int×Int×Int×Int×(List α)×Unit->Option ρ)(kr:Unit->Option ρ):Int×Int×Int×Int×Int×Int×Int×Int×(List α)×Unit->Option ρ:=
 λ(iD,v58,v59,v60,v61,fZ,hQ,v64,iW,_)=>
 (bif decide ((fZ:Int)<hQ)then
 (ix iW (wI (v64 - (wI (bshr .u64 (IntKind.wrap .u64 (wI (fZ+hQ))) 1))))).bind λ_=>
 ((iW)[(wI (v64 - (wI (bshr .u64 (IntKind.wrap .u64 (wI (fZ+hQ))) 1))):Int).toNat]?).bind λe68=>
 (ix iW (wI (bshr .u64 (IntKind.wrap .u64 (wI (fZ+hQ))) 1))).bind λ_=>
 ((iW)[(wI (bshr .u64 (IntKind.wrap .u64 (wI (fZ+hQ))) 1):Int).toNat]?).bind λe69=>
 (cmp n (e68,e69,())).bind λ(qz,_)=>
 (bif !(decide ((qz:Int)<0))then rec (iD,v58,v59,v60,v61,wI ((wI (bshr .u64 (IntKind.wrap .u64 (wI (fZ+hQ))) 1))+1),hQ,v64,iW,())
 else rec (iD,v58,v59,v60,v61,fZ,wI (bshr .u64 (IntKind.wrap .u64 (wI (fZ+hQ))) 1),v64,iW,()))
 else kx (iD,v58,v59,v60,v61,fZ,iW,()))
def i0x{α:Type}(cmp:Nat->α×α×Unit->Option Y5)(aB:Int×Int×Int×(List α)×Unit->Option ((List α)×Unit))(n:Nat):Int×Int×Int×(List α)×Unit->Option ((List α)×Unit):=
 λ(a1,a2,a3,o4,_)=>
 (bif (wI (a2 - a1):Int)==1 then
 a0a (λcI=>d0h cmp aB n cI (λ(fE,gz,hZ,_)=>
 a0a (λeE=>b0m aB n eE (λ(gN,_)=>some (gN,())) (λ(_)=>none)) (n) (gz,fE,hZ,())) (λ(_)=>none)) (n) (a1,a2,a3,o4,())
 else
 (bif (wI (a3 - a2):Int)==1 then
 a0a (λfw=>d0s cmp aB n fw (λ(v40,v41,ko,_)=>
 a0a (λeA=>b0p aB n eA (λ(gu,_)=>some (gu,())) (λ(_)=>none)) (n) (v41,v40,ko,())) (λ(_)=>none)) (n) (a2,a1,a2,o4,())
 else
 (bif decide ((a2:Int) >(wI (bshr .u64 (IntKind.wrap .u64 (wI (a1+a3))) 1)))then
 a0a (λfo=>c0g cmp aB n fo (λ(v71,v72,v73,v74,v75,v76,gH,_)=>
 (bif (decide ((v76:Int)<v72))&& (decide ((v72:Int)<(wI (v75 - v76))))then
 (h0r n (v76,v72,wI (v75 - v76),gH,())).bind λ(i6,_)=>
 (bif (decide ((v71:Int)<v76))&& (decide ((v76:Int)<v74))then
 (aB (v71,v76,v74,i6,())).bind λ(jO,_)=>
 (bif (decide ((v74:Int)<(wI (v75 - v76))))&& (decide ((wI (v75 - v76):Int)<v73))then
 (aB (v74,wI (v75 - v76),v73,jO,())).bind λ(nt,_)=>some (nt,())
 else some (jO,()))
 else
 (bif (decide ((v74:Int)<(wI (v75 - v76))))&& (decide ((wI (v75 - v76):Int)<v73))then
 (aB (v74,wI (v75 - v76),v73,i6,())).bind λ(o81,_)=>some (o81,())
 else some (i6,())))
 else
 (bif (decide ((v71:Int)<v76))&& (decide ((v76:Int)<v74))then
 (aB (v71,v76,v74,gH,())).bind λ(jH,_)=>
 (bif (decide ((v74:Int)<(wI (v75 - v76))))&& (decide ((wI (v75 - v76):Int)<v73))then
 (aB (v74,wI (v75 - v76),v73,jH,())).bind λ(ml,_)=>some (ml,())
 else some (jH,()))
 else
 (bif (decide ((v74:Int)<(wI (v75 - v76))))&& (decide ((wI (v75 - v76):Int)<v73))then
 (aB (v74,wI (v75 - v76),v73,gH,())).bind λ(mZ,_)=>some (mZ,())
 else some (gH,()))))) (λ(_)=>none)) (n) (a1,a2,a3,wI (bshr .u64 (IntKind.wrap .u64 (wI (a1+a3))) 1),wI ((wI (bshr .u64 (IntKind.wrap .u64 (wI (a1+a3))) 1))+a2),wI ((wI ((wI (bshr .u64 (IntKind.wrap .u64 (wI (a1+a3))) 1))+a2)) - a3),wI (bshr .u64 (IntKind.wrap .u64 (wI (a1+a3))) 1),wI ((wI ((wI (bshr .u64 (IntKind.wrap .u64 (wI (a1+a3))) 1))+a2)) - 1),o4,())
 else
 a0a (λjL=>c0g cmp aB n jL (λ(v86,v87,gT,v89,eK,v91,kL,_)=>
 (bif (decide ((v91:Int)<v87))&& (decide ((v87:Int)<(wI (eK - v91))))then
 (h0r n (v91,v87,wI (eK - v91),kL,())).bind λ(mV,_)=>
 (bif (decide ((v86:Int)<v91))&& (decide ((v91:Int)<v89))then
 (aB (v86,v91,v89,mV,())).bind λ(nM,_)=>
 (bif (decide ((v89:Int)<(wI (eK - v91))))&& (decide ((wI (eK - v91):Int)<gT))then
 (aB (v89,wI (eK - v91),gT,nM,())).bind λ(pJ,_)=>some (pJ,())
 else some (nM,()))
 else
 (bif (decide ((v89:Int)<(wI (eK - v91))))&& (decide ((wI (eK - v91):Int)<gT))then
 (aB (v89,wI (eK - v91),gT,mV,())).bind λ(pA,_)=>some (pA,())
 else some (mV,())))
 else
 (bif (decide ((v86:Int)<v91))&& (decide ((v91:Int)<v89))then
 (aB (v86,v91,v89,kL,())).bind λ(nF,_)=>
 (bif (decide ((v89:Int)<(wI (eK - v91))))&& (decide ((wI (eK - v91):Int)<gT))then
 (aB (v89,wI (eK - v91),gT,nF,())).bind λ(qg,_)=>some (qg,())
 else some (nF,()))
 else
 (bif (decide ((v89:Int)<(wI (eK - v91))))&& (decide ((wI (eK - v91):Int)<gT))then
 (aB (v89,wI (eK - v91),gT,kL,())).bind λ(pe,_)=>some (pe,())
 else some (kL,()))))) (λ(_)=>none)) (n) (a1,a2,a3,wI (bshr .u64 (IntKind.wrap .u64 (wI (a1+a3))) 1),wI ((wI (bshr .u64 (IntKind.wrap .u64 (wI (a1+a3))) 1))+a2),a1,a2,wI ((wI ((wI (bshr .u64 (IntKind.wrap .u64 (wI (a1+a3))) 1))+a2)) - 1),o4,()))))
def g0n{α:Type}(cmp:Nat->α×α×Unit->Option Y5):Nat->Int×Int×Int×(List α)×Unit->Option ((List α)×Unit)
 | 0,_=>none
 |n+1,x=>i0x cmp (g0n cmp n) n x
def f0p{α:Type}(cmp:Nat->α×α×Unit->Option Y5){ρ:Type}(n:Nat)(rec:Int×Int×Int×Int×(List α)×Unit->Option ρ)(kx:Int×Int×Int×(List α)×Unit->Option ρ)(kr:Unit->Option ρ):Int×Int×Int×Int×(List α)×Unit->Option ρ:=
 λ(v3,v4,v5,v6,o7,_)=>
 (bif decide ((v6:Int)<=v3)then
 (b0z cmp n (v5,v6,o7,())).bind λ(o8,_)=>rec (v3,v4,v6,wI (v6+v4),o8,())
 else kx (v3,v4,v5,o7,()))
def f0j{α:Type}(cmp:Nat->α×α×Unit->Option Y5){ρ:Type}(n:Nat)(rec:Int×Int×Int×Int×(List α)×Unit->Option ρ)(kx:Int×Int×Int×(List α)×Unit->Option ρ)(kr:Unit->Option ρ):Int×Int×Int×Int×(List α)×Unit->Option ρ:=
 λ(v17,cW,nA,v20,nW,_)=>
 (bif decide ((v20:Int)<=v17)then
 (g0n cmp n (nA,wI (nA+cW),v20,nW,())).bind λ(o22,_)=>rec (v17,cW,v20,wI (v20+(wI (2*cW))),o22,())
 else kx (v17,cW,nA,nW,()))
def c0u{α:Type}(cmp:Nat->α×α×Unit->Option Y5){ρ:Type}(n:Nat)(rec:Int×Int×(List α)×Unit->Option ρ)(kx:(List α)×Unit->Option ρ)(kr:Unit->Option ρ):Int×Int×(List α)×Unit->Option ρ:=
 λ(fE,gz,hZ,_)=>
 (bif decide ((gz:Int)<fE)then
 a0a (λiF=>f0j cmp n iF (λ(fq,v24,v25,gg,_)=>
 (bif decide ((wI (v25+v24):Int)<fq)then
 (g0n cmp n (v25,wI (v25+v24),fq,gg,())).bind λ(iR,_)=>rec (fq,wI (v24*2),iR,())
 else rec (fq,wI (v24*2),gg,()))) (λ(_)=>none)) (n) (fE,gz,0,wI (2*gz),hZ,())
 else kx (hZ,()))
def k1f{α:Type}(cmp:Nat->α×α×Unit->Option Y5)(n:Nat):Int×(List α)×Unit->Option ((List α)×Unit):=
 λ(a1,o2,_)=>
 a0a (λlG=>f0p cmp n lG (λ(v9,v10,v11,dH,_)=>
 (b0z cmp n (v11,v9,dH,())).bind λ(iS,_)=>
 a0a (λcI=>c0u cmp n cI (λ(gw,_)=>some (gw,())) (λ(_)=>none)) (n) (v9,v10,iS,())) (λ(_)=>none)) (n) (a1,20,0,20,o2,())
def f0b{α:Type}(cmp:Nat->α×α×Unit->Option Y5)(n:Nat):(List α)×Unit->Option ((List α)×Unit):=
 λ(o1,_)=>
 (k1f cmp n ((o1.length:Int),o1,())).bind λ(o2,_)=>some (o2,())
section
variable{α:Type}
theorem d0r{d l r:List α}{x:α}{i:Nat}(h:d=l++x::r)(hi:i=l.length):d[i]?=some x:=by subst h;subst hi;simp
theorem d0y{d l r:List α}{x:α}{i:Nat}(h:d=l++x::r)(hi:i=l.length):ix d (i:Int)=some x:=a0r (d0r h hi)
theorem g0k{d l r:List α}{x:α}{i:Nat}(y:α)(h:d=l++x::r)(hi:i=l.length):d.set i y=l++y::r:=by subst h;subst hi;simp
theorem wadd{a b:Nat}(h:a+b<=4000000000):wI ((a:Int)+(b:Int))=((a+b:Nat):Int):=by rw[a0f (by omega) (by omega)];omega
theorem t0h{a:Nat}(h:a<=4000000000):wI ((a:Int)+1)=((a+1:Nat):Int):=by rw[a0f (by omega) (by omega)];omega
theorem wsub{a b c:Nat}(h:a=c+b)(hc:a<=4000000000):wI ((a:Int) - (b:Int))=(c:Int):=by rw[a0f (by omega) (by omega)];omega
theorem l1y{a c:Nat}(h:a=c+1)(hc:a<=4000000000):wI ((a:Int) - 1)=(c:Int):=by rw[a0f (by omega) (by omega)];omega
theorem tnat(a:Nat):((a:Nat):Int).toNat=a:=rfl
theorem p1b(cmp:Nat->α×α×Unit->Option Y5)(c:α->α->Int)(n:Nat)(b i:Int)(p:List α)(x:α){ρ:Type}(kx:Int×Int×Int×(List α)×Unit->Option ρ)(kr:Unit->Option ρ):
  ∀(k:Nat) (s r:List α) (fuel:Nat),s.length=k->(∀z∈s,cmp n (x,z,())=some (c x z,()))->p.length+s.length+r.length<=1000000000->s.length<fuel->
  ∃u v,s=u++v/\(∀z∈v,c x z<0)/\(∀u' z,u=u' ++ [z]-> ¬c x z<0)/\
   a0a (λrc=>b0w cmp n rc kx kr) fuel ((p.length:Int),b,i,((p.length+s.length:Nat):Int),p++s++x::r,())=kx ((p.length:Int),b,i,p++u++x::(v++r),()):=by
 intro k
 induction k with
 |zero=>
  intro s r fuel hk hc hl hf;have:s=[]:=u2d.1 hk;subst this;obtain⟨m,rfl⟩:∃m,fuel=m+1:=⟨fuel - 1,by omega⟩;refine⟨[],[],rfl,by simp,by simp,?_⟩;have e:decide (((p.length+([]:List α).length:Nat):Int) >(p.length:Int))=false:=by simp
  simp only[a0a,b0w,e,u2k,s2m]
 |succ k ih=>
  intro s r fuel hk hc hl hf;obtain⟨m,rfl⟩:∃m,fuel=m+1:=⟨fuel - 1,by omega⟩;rcases List.eq_nil_or_concat s with rfl|⟨t,z,hs⟩
  ·simp at hk
  rw[List.concat_eq_append]at hs;subst hs;have aG:t.length=k:=by simpa using hk
  have bT:p.length+(t.length+1)+r.length<=1000000000:=by simpa using hl
  have ph:cmp n (x,z,())=some (c x z,()):=hc z (by simp);have gm:p++(t++ [z])++x::r=(p++t++ [z])++x::r:=by simp
  have gX:p++(t++ [z])++x::r=(p++t)++z::x::r:=by simp
  have hj:p.length+(t++ [z]).length=p.length+t.length+1:=by simp;omega
  have e:decide (((p.length+t.length+1:Nat):Int) >(p.length:Int))=true:=by simp;omega
  have ew:wI (((p.length+t.length+1:Nat):Int) - 1)=((p.length+t.length:Nat):Int):=l1y rfl (by omega);have i1:p.length+t.length+1=(p++t++ [z]).length:=by simp;omega
  have i0:p.length+t.length=(p++t).length:=by simp
  have s1:=g0k z gm i1;have gJ:(p++t++ [z])++z::r=(p++t)++z::z::r:=by simp
  have s2:=g0k x gJ i0;rw[hj];simp only[a0a,b0w,e,u2j,ew,tnat,d0y gm i1,d0r gm i1,d0y gX i0,d0r gX i0,r2g,ph];cases hb:decide (c x z<0)with
  |true=>
   simp only[u2j,s1,d0y gJ i0,d0r gJ i0,r2g,s2];obtain⟨u,v,h1,h2,h3,h4⟩:=ih t (z::r) m aG (λy hy=>hc y (by simp[hy])) (by simp;omega) (by simp at hf;omega);refine⟨u,v++ [z],by rw[h1];simp,?_,h3,?_⟩
   ·intro y hy
    rcases s2j.1 hy with hy|hy
    ·exact h2 y hy
    ·rw[s2e.1 hy];exact of_decide_eq_true hb
   ·rw[h4];simp
  |false=>
   simp only[u2k];refine⟨t++ [z],[],by simp,by simp,?_,by simp⟩;intro u' y hy;have:z=y:=by
    have:=congrArg List.getLast? hy;simpa using this
   subst this;exact of_decide_eq_false hb
structure Cmp(cmp:Nat->α×α×Unit->Option Y5)(c:α->α->Int)(D:α->Prop)(K:Nat):Prop where
 ok:∀n,K<=n->∀x y,D x->D y->cmp n (x,y,())=some (c x y,())
 asy:∀x y,D x->D y->c x y<0->¬c y x<0
 tr:∀x y z,D x->D y->D z->¬c y x<0->¬c z y<0->¬c z x<0
abbrev a0t(c:α->α->Int)(l:List α):Prop:=l.Pairwise λx y=>¬c y x<0
variable{cmp:Nat->α×α×Unit->Option Y5}{c:α->α->Int}{D:α->Prop}{K:Nat}
theorem Cmp.refl (H:Cmp cmp c D K){x:α}(h:D x):¬c x x<0:=λhx=>H.asy x x h h hx hx
theorem l1t(H:Cmp cmp c D K){u v:List α}{x:α}(hs:a0t c (u++v))(hD:∀z∈u++v,D z)(hx:D x)(h1:∀z∈v,c x z<0)(h2:∀u' z,u=u' ++ [z]-> ¬c x z<0):a0t c (u++x::v):=by
 unfold a0t at hs⊢;rw[List.pairwise_append]at hs⊢;obtain⟨hu,hv,pO⟩:=hs;refine⟨hu,t2l.2 ⟨λz hz=>H.asy _ _ hx (hD z (by simp[hz])) (h1 z hz),hv⟩,λa ha b hb=>?_⟩;rcases r2s.1 hb with rfl|hb
 ·rcases List.eq_nil_or_concat u with rfl|⟨u',z,hz⟩
  ·simp at ha
  ·rw[List.concat_eq_append]at hz
   subst hz;rcases s2j.1 ha with iY|iY
   ·have:¬c z a<0:=(List.pairwise_append.1 hu).2.2 a iY z (by simp)
    exact H.tr _ _ _ (hD a (by simp[iY])) (hD z (by simp)) hx this (h2 u' z rfl)
   ·rw[s2e.1 iY];exact h2 u' z rfl
 ·exact pO a ha b hb
theorem s1u(H:Cmp cmp c D K)(n:Nat)(hn:K<=n)(p:List α){ρ:Type}(kx:(List α)×Unit->Option ρ)(kr:Unit->Option ρ):
  ∀(t s q:List α) (fuel:Nat),(∀z∈s++t,D z)->a0t c s->p.length+s.length+t.length+q.length<=1000000000->s.length+t.length<n->t.length<fuel->
  ∃s',s'.Perm (s++t)/\a0t c s' /\
   a0a (λrc=>a0y cmp n rc kx kr) fuel ((p.length:Int),((p.length+s.length+t.length:Nat):Int),((p.length+s.length:Nat):Int),p++s++t++q,())=kx (p++s' ++q,()):=by
 intro t
 induction t with
 |nil=>
  intro s q fuel hD hs hl cJ hf;obtain⟨m,rfl⟩:∃m,fuel=m+1:=⟨fuel - 1,by simp at hf;omega⟩;refine⟨s,by simp,hs,?_⟩;have e:decide (((p.length+s.length:Nat):Int)<((p.length+s.length+([]:List α).length:Nat):Int))=false:=by simp
  simp only[a0a,a0y,e,u2k,s2a]
 |cons x t ih=>
  intro s q fuel hD hs hl cJ hf;obtain⟨m,rfl⟩:∃m,fuel=m+1:=⟨fuel - 1,by simp at hf;omega⟩;have e:decide (((p.length+s.length:Nat):Int)<((p.length+s.length+(x::t).length:Nat):Int))=true:=by simp;omega
  have hx:D x:=hD x (by simp);simp only[a0a,a0y,e,u2j];have hd:p++s++x::t++q=p++s++x::(t++q):=by simp
  rw[hd];obtain⟨u,v,h1,h2,h3,h4⟩:=p1b cmp c n ((p.length+s.length+(x::t).length:Nat):Int) ((p.length+s.length:Nat):Int) p x
   (λ(v24,v25,v26,iR,_)=>a0a (λrc=>a0y cmp n rc kx kr) m (v24,v25,wI (v26+1),iR,())) (λ(_)=>none) s.length s (t++q) n rfl
   (λz hz=>H.ok n hn x z hx (hD z (by simp[hz]))) (by simp at hl⊢;omega) (by simp at cJ;omega)
  refine Exists.imp (λs' h=>⟨?_,h.2.1,?_⟩) (ih (u++x::v) q m (λz hz=>hD z ?_) (l1t H (h1▸hs) (λz hz=>hD z (by rw[h1];simp at hz⊢;rcases hz with h|h<;>simp[h])) hx h2 h3) ?_ ?_ ?_)
  ·refine h.1.trans ?_
   rw[h1];simp only[s2t,List.cons_append];refine List.Perm.append_left u ?_;exact(List.perm_middle (l₁:=v)).symm
  ·rw[h4]
   dsimp only;have e1:wI (((p.length+s.length:Nat):Int)+1)=((p.length+(u++x::v).length:Nat):Int):=by
    rw[t0h (by omega),h1];simp;omega
   have e2:p.length+s.length+(x::t).length=p.length+(u++x::v).length+t.length:=by rw[h1];simp;omega
   have e3:p++u++x::(v++(t++q))=p++(u++x::v)++t++q:=by simp
   rw[e1,e2,e3];exact h.2.2
  ·rw[h1];simp at hz⊢;rcases hz with h|h|h|h<;>simp[h]
  ·rw[h1]at hl;simp at hl⊢;omega
  ·rw[h1]at cJ;simp at cJ⊢;omega
  ·simp at hf;omega
theorem o0s(H:Cmp cmp c D K)(n:Nat)(hn:K<=n)(p t q:List α)(hD:∀z∈t,D z)(hl:p.length+t.length+q.length<=1000000000)(hf:t.length+1<n):
  ∃s,s.Perm t/\a0t c s/\b0z cmp n ((p.length:Int),((p.length+t.length:Nat):Int),p++t++q,())=some (p++s++q,()):=by
 unfold b0z;dsimp only;rw[t0h (by omega)];cases t with
 |nil=>
  obtain⟨m,rfl⟩:∃m,n=m+1:=⟨n - 1,by omega⟩;refine⟨[],by simp,List.Pairwise.nil,?_⟩;have e:decide (((p.length+1:Nat):Int)<((p.length+([]:List α).length:Nat):Int))=false:=by simp;omega
  simp only[a0a,a0y,e,u2k]
 |cons x t=>
  obtain⟨s,h1,h2,h3⟩:=s1u H n hn p (λ(gw,_)=>some (gw,())) (λ(_)=>none) t [x] q n hD (by simp[a0t]) (by simp at hl⊢;omega) (by simp at hf⊢;omega) (by simp at hf;omega);refine⟨s,h1,h2,?_⟩;have e2:p.length+(x::t).length=p.length+ [x].length+t.length:=by simp;omega
  have e3:p++x::t++q=p++ [x]++t++q:=by simp
  rw[e2,e3];exact h3
theorem t1z(n:Nat)(p m q:List α){ρ:Type}(kx:(List α)×Unit->Option ρ)(kr:Unit->Option ρ):∀(u2 v2 u1 v1:List α) (fuel:Nat),u1.length=v1.length->u2.length=v2.length->
  p.length+u1.length+u2.length+m.length+v1.length+v2.length+q.length<=1000000000->u2.length<fuel->
  a0a (λrc=>e0o n rc kx kr) fuel ((p.length:Int),((p.length+u1.length+u2.length+m.length:Nat):Int),((u1.length+u2.length:Nat):Int),(u1.length:Int),p++v1++u2++m++u1++v2++q,())=kx (p++(v1++v2)++m++(u1++u2)++q,()):=by
 intro u2
 induction u2 with
 |nil=>
  intro v2 u1 v1 fuel h1 h2 hl hf;obtain⟨k,rfl⟩:∃k,fuel=k+1:=⟨fuel - 1,by simp at hf;omega⟩;have:v2=[]:=u2d.1 h2.symm;subst this;have e:decide ((u1.length:Int)<((u1.length+([]:List α).length:Nat):Int))=false:=by simp
  simp only[a0a,e0o,e,u2k];simp
 |cons x u2 ih=>
  intro v2 u1 v1 fuel h1 h2 hl hf;obtain⟨k,rfl⟩:∃k,fuel=k+1:=⟨fuel - 1,by simp at hf;omega⟩;cases v2 with
  |nil=>simp at h2
  |cons y v2=>
  have e:decide ((u1.length:Int)<((u1.length+(x::u2).length:Nat):Int))=true:=by simp;omega
  have bT:p.length+u1.length+(u2.length+1)+m.length+v1.length+(v2.length+1)+q.length<=1000000000:=by simpa using hl
  have ea:wI ((p.length:Int)+(u1.length:Int))=((p.length+u1.length:Nat):Int):=wadd (by omega);have eb:wI (((p.length+u1.length+(x::u2).length+m.length:Nat):Int)+(u1.length:Int))=((p.length+u1.length+(x::u2).length+m.length+u1.length:Nat):Int):=wadd (by simp;omega);have d1:p++v1++x::u2++m++u1++y::v2++q=(p++v1++x::u2++m++u1)++y::(v2++q):=by simp
  have d0:p++v1++x::u2++m++u1++y::v2++q=(p++v1)++x::(u2++m++u1++y::v2++q):=by simp
  have i1:p.length+u1.length+(x::u2).length+m.length+u1.length=(p++v1++x::u2++m++u1).length:=by simp;omega
  have i0:p.length+u1.length=(p++v1).length:=by simp;omega
  have s0:=g0k y d0 i0;have d2:(p++v1)++y::(u2++m++u1++y::v2++q)=(p++v1++y::u2++m++u1)++y::(v2++q):=by simp
  have i2:p.length+u1.length+(x::u2).length+m.length+u1.length=(p++v1++y::u2++m++u1).length:=by simp;omega
  have s2:=g0k x d2 i2;simp only[a0a,e0o,e,u2j,ea,eb,tnat,d0y d1 i1,d0r d1 i1,d0y d0 i0,d0r d0 i0,r2g,s0,d0y d2 i2,d0r d2 i2,s2,t0h (show u1.length<=4000000000 by omega)];have h:=ih v2 (u1++ [x]) (v1++ [y]) k (by simp[h1]) (by simpa using h2) (by simp;omega) (by simp at hf;omega);have e1:(u1++ [x]).length=u1.length+1:=by simp
  have e2:p.length+(u1++ [x]).length+u2.length+m.length=p.length+u1.length+(x::u2).length+m.length:=by simp;omega
  have e3:(u1++ [x]).length+u2.length=u1.length+(x::u2).length:=by simp;omega
  have e4:p++(v1++ [y])++u2++m++(u1++ [x])++v2++q=p++v1++y::u2++m++u1++x::(v2++q):=by simp
  have e5:p++(v1++ [y]++v2)++m++(u1++ [x]++u2)++q=p++(v1++y::v2)++m++(u1++x::u2)++q:=by simp
  rw[e2,e3,e4,e5,e1]at h;exact h
theorem e1u(n:Nat)(p u m v q:List α)(h:u.length=v.length)(hl:p.length+u.length+m.length+v.length+q.length<=1000000000)(hf:u.length<n):
  e0j n ((p.length:Int),((p.length+u.length+m.length:Nat):Int),(u.length:Int),p++u++m++v++q,())=some (p++v++m++u++q,()):=by
 unfold e0j;have:=t1z n p m q (λ(o18,_)=>some (o18,())) (λ(_)=>none) u v [] [] n rfl h (by simp;omega) hf;simpa using this
theorem c2e(n:Nat){ρ:Type}(q0:Int)(kr:Unit->Option ρ)(kx:Int×Int×(List α)×Unit->Option ρ):∀(k:Nat) (p x y q:List α) (fuel:Nat),x.length+y.length<=k->x≠ []->y≠ []->
  p.length+x.length+y.length+q.length<=1000000000->x.length+y.length<n->x.length+y.length<fuel->
  ∃p' x' y' q',x'.length=y'.length/\p' ++y' ++x' ++q' =p++y++x++q/\p'.length+x'.length+y'.length+q'.length<=1000000000/\x'.length<n/\
   a0a (λrc=>f0k n rc kx kr) fuel (((p.length+x.length:Nat):Int),(x.length:Int),(y.length:Int),p++x++y++q,())=kx (((p'.length+x'.length:Nat):Int),(x'.length:Int),p' ++x' ++y' ++q',()):=by
 intro k
 induction k with
 |zero=>
  intro p x y q fuel hk hx;exact absurd (u2d.1 (by omega)) hx
 |succ k ih=>
  intro p x y q fuel hk hx hy hl hn hf;have eY:0<x.length:=List.length_pos_iff.2 hx;have dS:0<y.length:=List.length_pos_iff.2 hy;obtain⟨m,rfl⟩:∃m,fuel=m+1:=⟨fuel - 1,by omega⟩;rcases Nat.lt_trichotomy x.length y.length with h|h|h
  ·-- the first part is shorter
   have e:((x.length:Int) !=(y.length:Int))=true:=by simp;omega
   have e2:decide ((x.length:Int) >(y.length:Int))=false:=by simp;omega
   obtain⟨y1,y2,lZ,hy2⟩:∃y1 y2,y=y1++y2/\y2.length=x.length:=⟨y.take (y.length - x.length),y.drop (y.length - x.length),by simp,by simp;omega⟩;subst lZ;have hlen:(y1++y2).length=y1.length+y2.length:=by simp
   rw[hlen]at h hl hn hf hk dS e e2;have w1:wI (((p.length+x.length:Nat):Int) - (x.length:Int))=(p.length:Int):=wsub (by omega) (by omega);have w2:wI (((p.length+x.length:Nat):Int)+((y1.length+y2.length:Nat):Int))=((p.length+x.length+(y1.length+y2.length):Nat):Int):=wadd (by omega);have w3:wI (((p.length+x.length+(y1.length+y2.length):Nat):Int) - (x.length:Int))=((p.length+x.length+y1.length:Nat):Int):=wsub (by omega) (by omega);have w4:wI (((y1.length+y2.length:Nat):Int) - (x.length:Int))=(y1.length:Int):=wsub (by omega) (by omega);have ny:=e1u n p x y1 y2 q hy2.symm (by omega) (by omega);have d1:p++x++(y1++y2)++q=p++x++y1++y2++q:=by simp
   rw[hlen,d1];simp only[a0a,f0k,e,e2,u2j,u2k,w1,w2,w3,w4,ny,r2g];have mu:y1≠ []:=by intro h0;subst h0;simp at h;omega
   have lW:y2≠ []:=by intro h0;subst h0;simp at hy2;omega
   obtain⟨p',x',y',q',a1,a2,a3,a4,a5⟩:=ih p y2 y1 (x++q) m (by omega) lW mu (by simp;omega) (by omega) (by omega);refine⟨p',x',y',q',a1,a2.trans (by simp),a3,a4,?_⟩;have d2:p++y2++y1++x++q=p++y2++y1++(x++q):=by simp
   rw[d2, <-hy2];exact a5
  ·have e:((x.length:Int) !=(y.length:Int))=false:=by simp;omega
   refine⟨p,x,y,q,h,rfl,hl,by omega,?_⟩;simp only[a0a,f0k,e,u2k]
  ·have e:((x.length:Int) !=(y.length:Int))=true:=by simp;omega
   have e2:decide ((x.length:Int) >(y.length:Int))=true:=by simp;omega
   obtain⟨x1,x2,l4,mW⟩:∃x1 x2,x=x1++x2/\x1.length=y.length:=⟨x.take y.length,x.drop y.length,by simp,by simp;omega⟩;subst l4;have hlen:(x1++x2).length=x1.length+x2.length:=by simp
   rw[hlen]at h hl hn hf hk eY e e2;have w1:wI (((p.length+(x1.length+x2.length):Nat):Int) - ((x1.length+x2.length:Nat):Int))=(p.length:Int):=wsub (by omega) (by omega);have w4:wI (((x1.length+x2.length:Nat):Int) - (y.length:Int))=(x2.length:Int):=wsub (by omega) (by omega);have ny:=e1u n p x1 x2 y q mW (by omega) (by omega);have d1:p++(x1++x2)++y++q=p++x1++x2++y++q:=by simp
   have l1:p.length+(x1.length+x2.length)=p.length+x1.length+x2.length:=by omega
   rw[hlen,d1];simp only[a0a,f0k,e,e2,u2j,w1,w4];rw[l1, <-mW,ny];simp only[r2g];have ma:x2≠ []:=by intro h0;subst h0;simp at h;omega
   have mv:x1≠ []:=by intro h0;subst h0;simp at mW;omega
   obtain⟨p',x',y',q',a1,a2,a3,a4,a5⟩:=ih (p++y) x2 x1 q m (by omega) ma mv (by simp;omega) (by omega) (by omega);refine⟨p',x',y',q',a1,a2.trans (by simp),a3,a4,?_⟩;have l2:p.length+x1.length+x2.length=(p++y).length+x2.length:=by simp;omega
   rw[l2];exact a5
theorem r1l(n:Nat)(p x y q:List α)(hx:x≠ [])(hy:y≠ [])(hl:p.length+x.length+y.length+q.length<=1000000000)(hn:x.length+y.length<n):
  h0r n ((p.length:Int),((p.length+x.length:Nat):Int),((p.length+x.length+y.length:Nat):Int),p++x++y++q,())=some (p++y++x++q,()):=by
 unfold h0r;dsimp only;rw[wsub (a:=p.length+x.length) (b:=p.length) (c:=x.length) (by omega) (by omega),wsub (a:=p.length+x.length+y.length) (b:=p.length+x.length) (c:=y.length) (by omega) (by omega)];obtain⟨p',x',y',q',a1,a2,a3,a4,a5⟩:=c2e n 0 (λ(_)=>none) (λ(v11,v12,iS,_)=>(e0j n (wI (v11 - v12),v11,v12,iS,())).bind λ(mg,_)=>some (mg,())) (x.length+y.length) p x y q n (r2q _) hx hy hl hn (by omega);rw[a5];dsimp only;rw[wsub (a:=p'.length+x'.length) (b:=x'.length) (c:=p'.length) (by omega) (by omega)];have:=e1u n p' x' [] y' q' a1 (by simp;omega) a4;simp only[List.length_nil,u2e,s2a]at this;rw[this, <-a2];rfl
end
section
variable{α:Type}{cmp:Nat->α×α×Unit->Option Y5}{c:α->α->Int}{D:α->Prop}{K:Nat}
theorem a2z{i j:Nat}(h:i+j<=4000000000):wI (bshr .u64 (IntKind.wrap .u64 (wI ((i:Int)+(j:Int)))) 1)=(((i+j) / 2:Nat):Int):=by
 rw[a0f (x:=(i:Int)+(j:Int)) (by omega) (by omega),n0o (x:=(i:Int)+(j:Int)) (by omega) (by omega)];have:bshr .u64 ((i:Int)+(j:Int)) 1=((i:Int)+(j:Int)) / 2:=by
  unfold bshr;rw[show(2:Int) ^ (min (1:Int).toNat IntKind.u64.bits)=2 from rfl,Int.fdiv_eq_ediv_of_nonneg _ (by omega)]
 rw[this,a0f (by omega) (by omega)];omega
theorem b2g{d l y q:List α}(h:d=l++y++q){i k:Nat}{z:α}(hz:y[k]?=some z)(hi:i=l.length+k):d[i]?=some z:=by
 subst h;subst hi;have hk:k<y.length:=(r2p.1 hz).1;rw[s2t,t2c (by omega),show l.length+k - l.length=k by omega,s2w hk];exact hz
theorem u1w{ρ:Type}(L:Nat->Nat->Nat->Option ρ)(kx:Nat->Option ρ)(F:Nat->Bool)(lo hi:Nat)
  (hs:∀fuel i j,lo<=i->i<j->j<=hi->L (fuel+1) i j=bif F ((i+j) / 2)then L fuel ((i+j) / 2+1) j else L fuel i ((i+j) / 2))
  (he:∀fuel i,lo<=i->i<=hi->L (fuel+1) i i=kx i)(hm:∀h h',lo<=h->h<=h' ->h' <hi->F h' =true->F h=true):
  ∀(fuel i j:Nat),lo<=i->i<=j->j<=hi->j - i<fuel->(∀h,lo<=h->h<i->F h=true)->(∀h,j<=h->h<hi->F h=false)->
   ∃s,i<=s/\s<=j/\(∀h,lo<=h->h<s->F h=true)/\(∀h,s<=h->h<hi->F h=false)/\L fuel i j=kx s:=by
 intro fuel
 induction fuel with
 |zero=>intro i j h1 h2 h3 h4;omega
 |succ fuel ih=>
  intro i j h1 h2 h3 h4 h5 h6;rcases t2y i j with fY|fY
  ·rw[hs fuel i j h1 fY h3]
   cases hF:F ((i+j) / 2)with
   |true=>
    rw[u2j];obtain⟨s,a1,a2,a3,a4,a5⟩:=ih ((i+j) / 2+1) j (by omega) (by omega) h3 (by omega) (λh b1 b2=>hm h ((i+j) / 2) b1 (by omega) (by omega) hF) h6;exact⟨s,by omega,a2,a3,a4,a5⟩
   |false=>
    rw[u2k];obtain⟨s,a1,a2,a3,a4,a5⟩:=ih i ((i+j) / 2) h1 (by omega) (by omega) (by omega) h5 (λh b1 b2=>by
     cases hh:F h with
     |false=>rfl
     |true=>rw[hm ((i+j) / 2) h (by omega) b1 b2 hh]at hF;cases hF)
    exact⟨s,a1,by omega,a3,a4,a5⟩
  ·have:i=j:=by omega
   subst this;exact⟨i,r2q _,r2q _,h5,h6,he fuel i h1 h3⟩
theorem c2g(self)(n:Nat)(p r:List α)(x:α){ρ:Type}(kx:(List α)×Unit->Option ρ)(kr:Unit->Option ρ):∀(v u:List α) (fuel:Nat),p.length+u.length+v.length+r.length<=1000000000->v.length<fuel->
  a0a (λrc=>b0m self n rc kx kr) fuel (((p.length+u.length+v.length+1:Nat):Int),((p.length+u.length:Nat):Int),p++u++x::(v++r),())=kx (p++(u++v)++x::r,()):=by
 intro v
 induction v with
 |nil=>
  intro u fuel hl hf;obtain⟨m,rfl⟩:∃m,fuel=m+1:=⟨fuel - 1,by simp at hf;omega⟩;have w:wI (((p.length+u.length+([]:List α).length+1:Nat):Int) - 1)=((p.length+u.length:Nat):Int):=l1y (by simp) (by simp at hl⊢;omega);have e:decide (((p.length+u.length:Nat):Int)<((p.length+u.length:Nat):Int))=false:=by simp
  simp only[a0a,b0m,w,e,u2k,s2m,s2a]
 |cons y v ih=>
  intro u fuel hl hf;obtain⟨m,rfl⟩:∃m,fuel=m+1:=⟨fuel - 1,by simp at hf;omega⟩;have bT:p.length+u.length+(v.length+1)+r.length<=1000000000:=by simpa using hl
  have w:wI (((p.length+u.length+(y::v).length+1:Nat):Int) - 1)=((p.length+u.length+(v.length+1):Nat):Int):=l1y (by simp) (by simp;omega);have e:decide (((p.length+u.length:Nat):Int)<((p.length+u.length+(v.length+1):Nat):Int))=true:=by simp;omega
  have w1:wI (((p.length+u.length:Nat):Int)+1)=((p.length+u.length+1:Nat):Int):=t0h (by omega);have d0:p++u++x::(y::v++r)=(p++u)++x::(y::v++r):=rfl;have d1:p++u++x::(y::v++r)=(p++u++ [x])++y::(v++r):=by simp
  have i0:p.length+u.length=(p++u).length:=by simp
  have i1:p.length+u.length+1=(p++u++ [x]).length:=by simp;omega
  have s0:=g0k y d0 i0;have d2:(p++u)++y::(y::v++r)=(p++u++ [y])++y::(v++r):=by simp
  have i2:p.length+u.length+1=(p++u++ [y]).length:=by simp;omega
  have s2:=g0k x d2 i2;simp only[a0a,b0m,w,e,u2j,w1,tnat,d0y d1 i1,d0r d1 i1,d0y d0 i0,d0r d0 i0,r2g,s0,d0y d2 i2,d0r d2 i2,s2];have h:=ih (u++ [y]) m (by simp;omega) (by simp at hf;omega);have e1:p.length+(u++ [y]).length+v.length+1=p.length+u.length+(y::v).length+1:=by simp;omega
  have e2:p.length+(u++ [y]).length=p.length+u.length+1:=by simp;omega
  have e3:p++(u++ [y])++x::(v++r)=p++u++ [y]++x::(v++r):=by simp
  have e4:p++(u++ [y]++v)++x::r=p++(u++y::v)++x::r:=by simp
  rw[e1,e2,e3,e4]at h;exact h
theorem n1s(self)(n:Nat)(p:List α)(x:α){ρ:Type}(kx:(List α)×Unit->Option ρ)(kr:Unit->Option ρ):∀(k:Nat) (u v:List α) (r:List α) (fuel:Nat),u.length=k->p.length+u.length+r.length<=1000000000->u.length<fuel->
  a0a (λrc=>b0p self n rc kx kr) fuel ((p.length:Int),((p.length+u.length:Nat):Int),p++u++x::r,())=kx (p++x::(u++r),()):=by
 intro k
 induction k with
 |zero=>
  intro u v r fuel hk hl hf;have:u=[]:=u2d.1 hk;subst this;obtain⟨m,rfl⟩:∃m,fuel=m+1:=⟨fuel - 1,by simp at hf;omega⟩;have e:decide (((p.length+([]:List α).length:Nat):Int) >(p.length:Int))=false:=by simp
  simp only[a0a,b0p,e,u2k,s2m,s2a]
 |succ k ih=>
  intro u v r fuel hk hl hf;obtain⟨m,rfl⟩:∃m,fuel=m+1:=⟨fuel - 1,by omega⟩;rcases List.eq_nil_or_concat u with rfl|⟨t,z,hs⟩
  ·simp at hk
  rw[List.concat_eq_append]at hs;subst hs;have aG:t.length=k:=by simpa using hk
  have bT:p.length+(t.length+1)+r.length<=1000000000:=by simpa using hl
  have gm:p++(t++ [z])++x::r=(p++t++ [z])++x::r:=by simp
  have gX:p++(t++ [z])++x::r=(p++t)++z::x::r:=by simp
  have hj:p.length+(t++ [z]).length=p.length+t.length+1:=by simp;omega
  have e:decide (((p.length+t.length+1:Nat):Int) >(p.length:Int))=true:=by simp;omega
  have ew:wI (((p.length+t.length+1:Nat):Int) - 1)=((p.length+t.length:Nat):Int):=l1y rfl (by omega);have i1:p.length+t.length+1=(p++t++ [z]).length:=by simp;omega
  have i0:p.length+t.length=(p++t).length:=by simp
  have s1:=g0k z gm i1;have gJ:(p++t++ [z])++z::r=(p++t)++z::z::r:=by simp
  have s2:=g0k x gJ i0;rw[hj];simp only[a0a,b0p,e,u2j,ew,tnat,d0y gm i1,d0r gm i1,d0y gX i0,d0r gX i0,r2g,s1,d0y gJ i0,d0r gJ i0,s2];rw[ih t v (z::r) m aG (by simp;omega) (by simp at hf;omega)];simp
def a1j(c:α->α->Int)(D:α->Prop)(f:Int×Int×Int×(List α)×Unit->Option ((List α)×Unit))(L:Nat):Prop:=
 ∀p x y q:List α,x≠ []->y≠ []->a0t c x->a0t c y->(∀z∈x++y,D z)->p.length+x.length+y.length+q.length<=1000000000->x.length+y.length<=L->
  ∃z,z.Perm (x++y)/\a0t c z/\f ((p.length:Int),((p.length+x.length:Nat):Int),((p.length+x.length+y.length:Nat):Int),p++x++y++q,())=some (p++z++q,())
theorem x1a(H:Cmp cmp c D K)(self)(n:Nat)(hn:K<=n)(p y q:List α)(x:α)(hy:a0t c y)(hD:∀z∈x::y,D z)(hl:p.length+1+y.length+q.length<=1000000000)(hf:y.length+2<n):
  ∃z,z.Perm (x::y)/\a0t c z/\a0a (λcI=>d0h cmp self n cI (λ(fE,gz,hZ,_)=>
   a0a (λeE=>b0m self n eE (λ(gN,_)=>some (gN,())) (λ(_)=>none)) (n) (gz,fE,hZ,())) (λ(_)=>none)) (n) ((p.length:Int),((p.length+1:Nat):Int),((p.length+1+y.length:Nat):Int),p++x::(y++q),())=some (p++z++q,()):=by
 have hx:D x:=hD x (by simp);have dR:p++x::(y++q)=p++x::(y++q):=rfl;have kS:p++x::(y++q)=(p++ [x])++y++q:=by simp
 obtain⟨s,a1,a2,a3,a4,a5⟩:=u1w (λfuel i j=>a0a (λcI=>d0h cmp self n cI (λ(fE,gz,hZ,_)=>
   a0a (λeE=>b0m self n eE (λ(gN,_)=>some (gN,())) (λ(_)=>none)) (n) (gz,fE,hZ,())) (λ(_)=>none)) fuel ((p.length:Int),(i:Int),(j:Int),p++x::(y++q),()))
  (λi=>a0a (λeE=>b0m self n eE (λ(gN,_)=>some (gN,())) (λ(_)=>none)) (n) ((i:Int),(p.length:Int),p++x::(y++q),()))
  (λh=>match y[h - (p.length+1)]? with|some z=>decide (c z x<0)| none=>false) (p.length+1) (p.length+1+y.length)
  (λfuel i j h1 h2 h3=>by
   obtain⟨z,hz⟩:∃z,y[(i+j) / 2 - (p.length+1)]?=some z:=⟨y[(i+j) / 2 - (p.length+1)]'(by omega),by simp⟩;have e:decide ((i:Int)<(j:Int))=true:=by simp;omega
   have hh:=a2z (i:=i) (j:=j) (by omega);have g1:=b2g kS hz (i:=(i+j) / 2) (by simp;omega);have hDz:D z:=hD z (by simp[r2v hz]);dsimp only;simp only[a0a,d0h,e,u2j,hh,tnat,a0r g1,g1,d0y dR rfl,d0r dR rfl,r2g,H.ok n hn z x hDz hx,hz,t0h (show(i+j) / 2<=4000000000 by omega)])
  (λfuel i h1 h2=>by
   have e:decide ((i:Int)<(i:Int))=false:=by simp
   simp only[a0a,d0h,e,u2k])
  (λh h' h1 h2 h3 hF=>by
   obtain⟨z,hz⟩:∃z,y[h - (p.length+1)]?=some z:=⟨y[h - (p.length+1)]'(by omega),by simp⟩;obtain⟨z',eC⟩:∃z,y[h' - (p.length+1)]?=some z:=⟨y[h' - (p.length+1)]'(by omega),by simp⟩;rw[eC]at hF;rw[hz];dsimp only at hF⊢;have hF' :=of_decide_eq_true hF;rw[decide_eq_true_iff];have hle:¬c z' z<0:=by
    rcases t2y (h - (p.length+1)) (h' - (p.length+1))with aJ|dT
    ·obtain⟨k1,e1⟩:=r2p.1 hz
     obtain⟨k2,e2⟩:=r2p.1 eC;have:=List.pairwise_iff_getElem.1 hy _ _ k1 k2 aJ;rw[e1,e2]at this;exact this
    ·have:h - (p.length+1)=h' - (p.length+1):=by omega
     rw[this,eC]at hz;cases hz;exact H.refl (hD _ (by simp[r2v eC]))
   rcases Classical.em (c z x<0)with h0|h0
   ·exact h0
   ·exact absurd hF' (H.tr x z z' hx (hD z (by simp[r2v hz])) (hD z' (by simp[r2v eC])) h0 hle))
  n (p.length+1) (p.length+1+y.length) (r2q _) (by omega) (r2q _) (by omega) (λh b1 b2=>by omega) (λh b1 b2=>by omega)
 obtain⟨v,w,gB,hv⟩:∃v w,y=v++w/\v.length=s - (p.length+1):=⟨y.take (s - (p.length+1)),y.drop (s - (p.length+1)),by simp,by simp;omega⟩;have ng:∀z∈v,c z x<0:=λz hz=>by
  obtain⟨k,hk,e⟩:=List.mem_iff_getElem.1 hz;have:=a3 (p.length+1+k) (by omega) (by omega);have iB:y[p.length+1+k - (p.length+1)]?=some z:=by rw[show p.length+1+k - (p.length+1)=k by omega,gB,s2w hk, <-e];simp
  rw[iB]at this;exact of_decide_eq_true this
 have lu:∀z∈w,¬c z x<0:=λz hz=>by
  obtain⟨k,hk,e⟩:=List.mem_iff_getElem.1 hz;have hlen:y.length=v.length+w.length:=by rw[gB];simp
  have:=a4 (p.length+1+v.length+k) (by omega) (by omega);have iB:y[p.length+1+v.length+k - (p.length+1)]?=some z:=by rw[show p.length+1+v.length+k - (p.length+1)=v.length+k by omega,gB,t2c (by omega),show v.length+k - v.length=k by omega, <-e];simp
  rw[iB]at this;exact of_decide_eq_false this
 subst gB;have hD' :∀z∈v++w,D z:=λz hz=>hD z (by simp at hz⊢;rcases hz with h|h<;>simp[h])
 refine⟨v++x::w,List.perm_middle,?_,?_⟩
 ·unfold a0t at hy⊢
  rw[List.pairwise_append]at hy⊢;refine⟨hy.1,t2l.2 ⟨λz hz=>lu z hz,hy.2.1⟩,λa ha b hb=>?_⟩;rcases r2s.1 hb with rfl|hb
  ·exact H.asy _ _ (hD' a (by simp[ha])) hx (ng a ha)
  ·exact hy.2.2 a ha b hb
 ·refine a5.trans ?_
  have h:=c2g self n p (w++q) x (λ(gN,_)=>some (gN,())) (λ(_)=>none) v [] n (by simp at hl⊢;omega) (by simp at hf;omega);have e1:p.length+([]:List α).length+v.length+1=s:=by simp;omega
  rw[e1]at h;have e2:p++ []++x::(v++(w++q))=p++x::(v++w++q):=by simp
  rw[e2]at h;refine h.trans ?_;simp
theorem n1k(H:Cmp cmp c D K)(self)(n:Nat)(hn:K<=n)(p x q:List α)(y:α)(hy:a0t c x)(hD:∀z∈x++ [y],D z)(hl:p.length+1+x.length+q.length<=1000000000)(hf:x.length+2<n):
  ∃z,z.Perm (x++ [y])/\a0t c z/\a0a (λfw=>d0s cmp self n fw (λ(v40,v41,ko,_)=>
   a0a (λeA=>b0p self n eA (λ(gu,_)=>some (gu,())) (λ(_)=>none)) (n) (v41,v40,ko,())) (λ(_)=>none)) (n) (((p.length+x.length:Nat):Int),(p.length:Int),((p.length+x.length:Nat):Int),p++x++y::q,())=some (p++z++q,()):=by
 have mP:D y:=hD y (by simp);have kS:p++x++y::q=(p++x)++y::q:=rfl;have dR:p++x++y::q=p++x++(y::q):=rfl;have iy:p.length+x.length=(p++x).length:=by simp
 obtain⟨s,a1,a2,a3,a4,a5⟩:=u1w (λfuel i j=>a0a (λfw=>d0s cmp self n fw (λ(v40,v41,ko,_)=>
   a0a (λeA=>b0p self n eA (λ(gu,_)=>some (gu,())) (λ(_)=>none)) (n) (v41,v40,ko,())) (λ(_)=>none)) fuel (((p.length+x.length:Nat):Int),(i:Int),(j:Int),p++x++y::q,()))
  (λi=>a0a (λeA=>b0p self n eA (λ(gu,_)=>some (gu,())) (λ(_)=>none)) (n) ((i:Int),((p.length+x.length:Nat):Int),p++x++y::q,()))
  (λh=>match x[h - p.length]? with|some z=> !(decide (c y z<0))| none=>false) p.length (p.length+x.length)
  (λfuel i j h1 h2 h3=>by
   obtain⟨z,hz⟩:∃z,x[(i+j) / 2 - p.length]?=some z:=⟨x[(i+j) / 2 - p.length]'(by omega),by simp⟩;have e:decide ((i:Int)<(j:Int))=true:=by simp;omega
   have hh:=a2z (i:=i) (j:=j) (by omega);have g1:=b2g dR hz (i:=(i+j) / 2) (by omega);have hDz:D z:=hD z (by simp[r2v hz]);dsimp only;simp only[a0a,d0s,e,u2j,hh,tnat,a0r g1,g1,d0y kS iy,d0r kS iy,r2g,H.ok n hn y z mP hDz,hz,t0h (show(i+j) / 2<=4000000000 by omega)])
  (λfuel i h1 h2=>by
   have e:decide ((i:Int)<(i:Int))=false:=by simp
   simp only[a0a,d0s,e,u2k])
  (λh h' h1 h2 h3 hF=>by
   obtain⟨z,hz⟩:∃z,x[h - p.length]?=some z:=⟨x[h - p.length]'(by omega),by simp⟩;obtain⟨z',eC⟩:∃z,x[h' - p.length]?=some z:=⟨x[h' - p.length]'(by omega),by simp⟩;rw[eC]at hF;rw[hz];dsimp only at hF⊢;simp only[s2v,decide_eq_false_iff_not]at hF⊢;have hle:¬c z' z<0:=by
    rcases t2y (h - p.length) (h' - p.length)with aJ|dT
    ·obtain⟨k1,e1⟩:=r2p.1 hz
     obtain⟨k2,e2⟩:=r2p.1 eC;have:=List.pairwise_iff_getElem.1 hy _ _ k1 k2 aJ;rw[e1,e2]at this;exact this
    ·have:h - p.length=h' - p.length:=by omega
     rw[this,eC]at hz;cases hz;exact H.refl (hD _ (by simp[r2v eC]))
   exact H.tr z z' y (hD z (by simp[r2v hz])) (hD z' (by simp[r2v eC])) mP hle hF)
  n p.length (p.length+x.length) (r2q _) (by omega) (r2q _) (by omega) (λh b1 b2=>by omega) (λh b1 b2=>by omega)
 obtain⟨v,w,gB,hv⟩:∃v w,x=v++w/\v.length=s - p.length:=⟨x.take (s - p.length),x.drop (s - p.length),by simp,by simp;omega⟩;have ng:∀z∈v,¬c y z<0:=λz hz=>by
  obtain⟨k,hk,e⟩:=List.mem_iff_getElem.1 hz;have:=a3 (p.length+k) (by omega) (by omega);have iB:x[p.length+k - p.length]?=some z:=by rw[show p.length+k - p.length=k by omega,gB,s2w hk, <-e];simp
  rw[iB]at this;simpa using this
 have lu:∀z∈w,c y z<0:=λz hz=>by
  obtain⟨k,hk,e⟩:=List.mem_iff_getElem.1 hz;have hlen:x.length=v.length+w.length:=by rw[gB];simp
  have:=a4 (p.length+v.length+k) (by omega) (by omega);have iB:x[p.length+v.length+k - p.length]?=some z:=by rw[show p.length+v.length+k - p.length=v.length+k by omega,gB,t2c (by omega),show v.length+k - v.length=k by omega, <-e];simp
  rw[iB]at this;simpa using this
 subst gB;have hD' :∀z∈v++w,D z:=λz hz=>hD z (by simp at hz⊢;rcases hz with h|h<;>simp[h])
 refine⟨v++y::w,?_,?_,?_⟩
 ·refine List.perm_middle.trans ?_
  exact(List.perm_append_comm (l₁:=[y]) (l₂:=v++w))
 ·unfold a0t at hy⊢
  rw[List.pairwise_append]at hy⊢;refine⟨hy.1,t2l.2 ⟨λz hz=>H.asy _ _ mP (hD' z (by simp[hz])) (lu z hz),hy.2.1⟩,λa ha b hb=>?_⟩;rcases r2s.1 hb with rfl|hb
  ·exact ng a ha
  ·exact hy.2.2 a ha b hb
 ·refine a5.trans ?_
  have h:=n1s self n (p++v) y (λ(gu,_)=>some (gu,())) (λ(_)=>none) w.length w [] q n rfl (by simp at hl⊢;omega) (by simp at hf;omega);have e1:(p++v).length=s:=by simp;omega
  have e3:(p++v).length+w.length=p.length+(v++w).length:=by simp;omega
  rw[e3]at h;rw[e1]at h;have e2:p++v++w++y::q=p++(v++w)++y::q:=by simp
  rw[e2]at h;refine h.trans ?_;simp
end
section
variable{α:Type}{cmp:Nat->α×α×Unit->Option Y5}{c:α->α->Int}{D:α->Prop}{K:Nat}
def j1h(self:Int×Int×Int×(List α)×Unit->Option ((List α)×Unit))(n:Nat):Int×Int×Int×Int×Int×Int×(List α)×Unit->Option ((List α)×Unit):=
 λ(a,m,b,mid,nn,s,o,_)=>
 (bif (decide ((s:Int)<m))&& (decide ((m:Int)<(wI (nn - s))))then h0r n (s,m,wI (nn - s),o,())else some (o,())).bind λ(o1,_)=>
 (bif (decide ((a:Int)<s))&& (decide ((s:Int)<mid))then self (a,s,mid,o1,())else some (o1,())).bind λ(o2,_)=>
 (bif (decide ((mid:Int)<(wI (nn - s))))&& (decide ((wI (nn - s):Int)<b))then(self (mid,wI (nn - s),b,o2,())).bind λ(o3,_)=>some (o3,())else some (o2,()))
def t0b(aB:Int×Int×Int×(List α)×Unit->Option ((List α)×Unit))(n:Nat):Int×Int×Int×Int×Int×Int×(List α)×Unit->Option ((List α)×Unit):=
 λ(v71,v72,v73,v74,v75,v76,gH,_)=>
 (bif (decide ((v76:Int)<v72))&& (decide ((v72:Int)<(wI (v75 - v76))))then
 (h0r n (v76,v72,wI (v75 - v76),gH,())).bind λ(i6,_)=>
 (bif (decide ((v71:Int)<v76))&& (decide ((v76:Int)<v74))then
 (aB (v71,v76,v74,i6,())).bind λ(jO,_)=>
 (bif (decide ((v74:Int)<(wI (v75 - v76))))&& (decide ((wI (v75 - v76):Int)<v73))then
 (aB (v74,wI (v75 - v76),v73,jO,())).bind λ(nt,_)=>some (nt,())
 else some (jO,()))
 else
 (bif (decide ((v74:Int)<(wI (v75 - v76))))&& (decide ((wI (v75 - v76):Int)<v73))then
 (aB (v74,wI (v75 - v76),v73,i6,())).bind λ(o81,_)=>some (o81,())
 else some (i6,())))
 else
 (bif (decide ((v71:Int)<v76))&& (decide ((v76:Int)<v74))then
 (aB (v71,v76,v74,gH,())).bind λ(jH,_)=>
 (bif (decide ((v74:Int)<(wI (v75 - v76))))&& (decide ((wI (v75 - v76):Int)<v73))then
 (aB (v74,wI (v75 - v76),v73,jH,())).bind λ(ml,_)=>some (ml,())
 else some (jH,()))
 else
 (bif (decide ((v74:Int)<(wI (v75 - v76))))&& (decide ((wI (v75 - v76):Int)<v73))then
 (aB (v74,wI (v75 - v76),v73,gH,())).bind λ(mZ,_)=>some (mZ,())
 else some (gH,()))))
theorem f2d(self)(n:Nat)(x:Int×Int×Int×Int×Int×Int×(List α)×Unit):t0b self n x=j1h self n x:=by
 obtain⟨a,m,b,mid,nn,s,o,u⟩:=x;unfold t0b j1h;dsimp only;generalize ((decide ((s:Int)<m))&& (decide ((m:Int)<(wI (nn - s)))))=c1;generalize ((decide ((a:Int)<s))&& (decide ((s:Int)<mid)))=c2;generalize ((decide ((mid:Int)<(wI (nn - s))))&& (decide ((wI (nn - s):Int)<b)))=c3;cases c1<;>cases c2<;>cases c3<;>rfl
theorem x0u{u v:List α}(h1:a0t c u)(h2:a0t c v)(h:∀a∈u,∀b∈v,¬c b a<0):a0t c (u++v):=List.pairwise_append.2 ⟨h1,h2,h⟩
theorem g2v(H:Cmp cmp c D K){self}{L:Nat}(hS:a1j c D self L)(n:Nat)(p A1 A2 B1 B2 q:List α)(h1:a0t c (A1++A2))(h2:a0t c (B1++B2))(hD:∀z∈A1++A2++(B1++B2),D z)
  (fV:∀a∈A1,∀b∈B2,¬c b a<0)(lF:∀b∈B1,∀a∈A2,¬c a b<0)(hl:p.length+A1.length+A2.length+B1.length+B2.length+q.length<=1000000000)
  (hL1:A1.length+B1.length<=L)(hL2:A2.length+B2.length<=L)(hf:A1.length+A2.length+B1.length+B2.length<n)(mid:Nat)(hmid:mid=p.length+A1.length+B1.length):
  ∃z,z.Perm (A1++A2++(B1++B2))/\a0t c z/\j1h self n ((p.length:Int),((p.length+A1.length+A2.length:Nat):Int),((p.length+A1.length+A2.length+B1.length+B2.length:Nat):Int),(mid:Int),((mid+(p.length+A1.length+A2.length):Nat):Int),((p.length+A1.length:Nat):Int),p++(A1++A2)++(B1++B2)++q,())=some (p++z++q,()):=by
 unfold j1h;dsimp only;have we:wI (((mid+(p.length+A1.length+A2.length):Nat):Int) - ((p.length+A1.length:Nat):Int))=((p.length+A1.length+A2.length+B1.length:Nat):Int):=wsub (by omega) (by omega);rw[we];have D1:∀z∈A1,D z:=λz hz=>hD z (by simp[hz]);have D2:∀z∈A2,D z:=λz hz=>hD z (by simp[hz]);have D3:∀z∈B1,D z:=λz hz=>hD z (by simp[hz]);have D4:∀z∈B2,D z:=λz hz=>hD z (by simp[hz]);obtain⟨sA1,sA2,sA⟩:=List.pairwise_append.1 h1;obtain⟨sB1,sB2,sB⟩:=List.pairwise_append.1 h2
 -- turned
 have k1:(bif (decide (((p.length+A1.length:Nat):Int)<((p.length+A1.length+A2.length:Nat):Int)))&& (decide (((p.length+A1.length+A2.length:Nat):Int)<((p.length+A1.length+A2.length+B1.length:Nat):Int)))then
   h0r n (((p.length+A1.length:Nat):Int),((p.length+A1.length+A2.length:Nat):Int),((p.length+A1.length+A2.length+B1.length:Nat):Int),p++(A1++A2)++(B1++B2)++q,())else some (p++(A1++A2)++(B1++B2)++q,()))=some (p++A1++B1++A2++B2++q,()):=by
  cases A2 with
  |nil=>simp
  |cons a A2=>cases B1 with
   |nil=>simp
   |cons b B1=>
    have e:((decide (((p.length+A1.length:Nat):Int)<((p.length+A1.length+(a::A2).length:Nat):Int)))&& (decide (((p.length+A1.length+(a::A2).length:Nat):Int)<((p.length+A1.length+(a::A2).length+(b::B1).length:Nat):Int))))=true:=by simp;omega
    rw[e,u2j];have:=r1l n (p++A1) (a::A2) (b::B1) (B2++q) (by simp) (by simp) (by simp at hl⊢;omega) (by simp at hf⊢;omega);have e1:(p++A1).length=p.length+A1.length:=by simp
    rw[e1]at this;have e2:p++A1++a::A2++b::B1++(B2++q)=p++(A1++a::A2)++(b::B1++B2)++q:=by simp
    rw[e2]at this;rw[this];simp
 rw[k1,r2g];dsimp only
 -- the first half
 obtain⟨z1,p1,s1,k2⟩:∃z1,z1.Perm (A1++B1)/\a0t c z1/\(bif (decide ((p.length:Int)<((p.length+A1.length:Nat):Int)))&& (decide (((p.length+A1.length:Nat):Int)<(mid:Int)))then self ((p.length:Int),((p.length+A1.length:Nat):Int),(mid:Int),p++A1++B1++A2++B2++q,())else some (p++A1++B1++A2++B2++q,()))=some (p++z1++A2++B2++q,()):=by
  subst hmid;cases A1 with
  |nil=>exact⟨B1,by simp,sB1,by simp⟩
  |cons a A1=>cases B1 with
   |nil=>exact⟨a::A1,by simp,sA1,by simp⟩
   |cons b B1=>
    obtain⟨z,q1,q2,q3⟩:=hS p (a::A1) (b::B1) (A2++B2++q) (by simp) (by simp) sA1 sB1 (λz hz=>by rcases s2j.1 hz with h|h;exact D1 z h;exact D3 z h) (by simp at hl⊢;omega) hL1
    refine⟨z,q1,q2,?_⟩;have e:((decide ((p.length:Int)<((p.length+(a::A1).length:Nat):Int)))&& (decide (((p.length+(a::A1).length:Nat):Int)<((p.length+(a::A1).length+(b::B1).length:Nat):Int))))=true:=by simp;omega
    rw[e,u2j];have e2:p++a::A1++b::B1++A2++B2++q=p++a::A1++b::B1++(A2++B2++q):=by simp
    rw[e2,q3];simp
 rw[k2,r2g];dsimp only;have lz1:z1.length=A1.length+B1.length:=by rw[p1.length_eq];simp
 -- the second half
 obtain⟨z2,p2,s2,k3⟩:∃z2,z2.Perm (A2++B2)/\a0t c z2/\(bif (decide ((mid:Int)<((p.length+A1.length+A2.length+B1.length:Nat):Int)))&& (decide (((p.length+A1.length+A2.length+B1.length:Nat):Int)<((p.length+A1.length+A2.length+B1.length+B2.length:Nat):Int)))then
   (self ((mid:Int),((p.length+A1.length+A2.length+B1.length:Nat):Int),((p.length+A1.length+A2.length+B1.length+B2.length:Nat):Int),p++z1++A2++B2++q,())).bind λ(o3,_)=>some (o3,())else some (p++z1++A2++B2++q,()))=some (p++z1++z2++q,()):=by
  subst hmid;cases A2 with
  |nil=>
   refine⟨B2,by simp,sB2,?_⟩;have e:(decide (((p.length+A1.length+B1.length:Nat):Int)<((p.length+A1.length+([]:List α).length+B1.length:Nat):Int)))=false:=by simp
   rw[e,u2i,u2k];simp
  |cons a A2=>cases B2 with
   |nil=>
    refine⟨a::A2,by simp,sA2,?_⟩;have e:(decide (((p.length+A1.length+(a::A2).length+B1.length:Nat):Int)<((p.length+A1.length+(a::A2).length+B1.length+([]:List α).length:Nat):Int)))=false:=by simp
    rw[e,Bool.and_false,u2k];simp
   |cons b B2=>
    obtain⟨z,q1,q2,q3⟩:=hS (p++z1) (a::A2) (b::B2) q (by simp) (by simp) sA2 sB2 (λz hz=>by rcases s2j.1 hz with h|h;exact D2 z h;exact D4 z h) (by simp at hl⊢;omega) hL2
    refine⟨z,q1,q2,?_⟩;have e:((decide (((p.length+A1.length+B1.length:Nat):Int)<((p.length+A1.length+(a::A2).length+B1.length:Nat):Int)))&& (decide (((p.length+A1.length+(a::A2).length+B1.length:Nat):Int)<((p.length+A1.length+(a::A2).length+B1.length+(b::B2).length:Nat):Int))))=true:=by simp;omega
    rw[e,u2j];have e1:(p++z1).length=p.length+A1.length+B1.length:=by simp;omega
    have e2:p.length+A1.length+B1.length+(a::A2).length=p.length+A1.length+(a::A2).length+B1.length:=by omega
    have e3:p.length+A1.length+B1.length+(a::A2).length+(b::B2).length=p.length+A1.length+(a::A2).length+B1.length+(b::B2).length:=by omega
    rw[e1,e3,e2]at q3;have e4:p++z1++a::A2++b::B2++q=p++z1++a::A2++b::B2++q:=rfl;rw[q3];rfl
 rw[k3];refine⟨z1++z2,?_,?_,by simp⟩
 ·refine(p1.append p2).trans ?_
  rw[s2t,s2t];refine List.Perm.append_left A1 ?_;rw [<-s2t, <-s2t];exact(List.perm_append_comm (l₁:=B1) (l₂:=A2)).append_right B2
 ·refine x0u s1 s2 λa ha b hb=>?_
  rcases s2j.1 (p1.mem_iff.1 ha)with h|h<;>rcases s2j.1 (p2.mem_iff.1 hb)with h'|h'
  ·exact sA a h b h'
  ·exact fV a h b h'
  ·exact lF a h b h'
  ·exact sB a h b h'
theorem g0w(H:Cmp cmp c D K){l:List α}(hs:a0t c l)(hD:∀z∈l,D z){i j:Nat}{u v:α}(hi:l[i]?=some u)(hj:l[j]?=some v)(h:i<=j):¬c v u<0:=by
 rcases t2y i j with aJ|dT
 ·obtain⟨k1,e1⟩:=r2p.1 hi
  obtain⟨k2,e2⟩:=r2p.1 hj;have:=List.pairwise_iff_getElem.1 hs _ _ k1 k2 aJ;rw[e1,e2]at this;exact this
 ·have:i=j:=by omega
  subst this;rw[hi]at hj;cases hj;exact H.refl (hD _ (r2v hi))
theorem b1h(H:Cmp cmp c D K){self}{L:Nat}(hS:a1j c D self L)(n:Nat)(hn:K<=n)(p x y q:List α)(sx:a0t c x)(sy:a0t c y)(hD:∀z∈x++y,D z)(hl:p.length+x.length+y.length+q.length<=1000000000)
  (hf:x.length+y.length+2<n)(mid st r:Nat)(h1:p.length<=st)(h2:st<=r)(h3:r<=p.length+x.length)(hr:p.length+x.length+r<=mid+(p.length+x.length))(hst:mid+(p.length+x.length)<=p.length+x.length+y.length+st)
  (hsA:st=p.length\/mid+(p.length+x.length)=p.length+x.length+y.length+st)(hrA:r=p.length+x.length\/mid+(p.length+x.length)=p.length+x.length+r)(hm0:p.length<=mid)
  (hL1:mid - p.length<=L)(hL2:p.length+x.length+y.length - mid<=L)(hm1:mid<=p.length+x.length+y.length)(hP:1<=mid+(p.length+x.length)):
  ∃z,z.Perm (x++y)/\a0t c z/\a0a (λfo=>c0g cmp self n fo (t0b self n) (λ(_)=>none)) n
   ((p.length:Int),((p.length+x.length:Nat):Int),((p.length+x.length+y.length:Nat):Int),(mid:Int),((mid+(p.length+x.length):Nat):Int),(st:Int),(r:Int),((mid+(p.length+x.length) - 1:Nat):Int),p++x++y++q,())=some (p++z++q,()):=by
 have Dx:∀z∈x,D z:=λz hz=>hD z (by simp[hz]);have Dy:∀z∈y,D z:=λz hz=>hD z (by simp[hz]);have dx:p++x++y++q=p++x++(y++q):=by simp
 have dy:p++x++y++q=(p++x)++y++q:=rfl;have gx:∀h,st<=h->h<r->∃u,x[h - p.length]?=some u:=λh b1 b2=>⟨x[h - p.length]'(by omega),by simp⟩;have gy:∀h,st<=h->h<r->∃v,y[mid+(p.length+x.length) - 1 - h - (p.length+x.length)]?=some v:=λh b1 b2=>⟨y[mid+(p.length+x.length) - 1 - h - (p.length+x.length)]'(by omega),by simp⟩;obtain⟨s,a1,a2,a3,a4,a5⟩:=u1w (λfuel i j=>a0a (λfo=>c0g cmp self n fo (t0b self n) (λ(_)=>none)) fuel
   ((p.length:Int),((p.length+x.length:Nat):Int),((p.length+x.length+y.length:Nat):Int),(mid:Int),((mid+(p.length+x.length):Nat):Int),(i:Int),(j:Int),((mid+(p.length+x.length) - 1:Nat):Int),p++x++y++q,()))
  (λi=>t0b self n ((p.length:Int),((p.length+x.length:Nat):Int),((p.length+x.length+y.length:Nat):Int),(mid:Int),((mid+(p.length+x.length):Nat):Int),(i:Int),p++x++y++q,()))
  (λh=>match x[h - p.length]?,y[mid+(p.length+x.length) - 1 - h - (p.length+x.length)]? with|some u,some v=> !(decide (c v u<0))| _,_=>false) st r
  (λfuel i j b1 b2 b3=>by
   obtain⟨u,hu⟩:=gx ((i+j) / 2) (by omega) (by omega);obtain⟨v,hv⟩:=gy ((i+j) / 2) (by omega) (by omega);have e:decide ((i:Int)<(j:Int))=true:=by simp;omega
   have hh:=a2z (i:=i) (j:=j) (by omega);have ww:wI (((mid+(p.length+x.length) - 1:Nat):Int) - (((i+j) / 2:Nat):Int))=((mid+(p.length+x.length) - 1 - (i+j) / 2:Nat):Int):=wsub (by omega) (by omega);have g1:=b2g dx hu (i:=(i+j) / 2) (by omega);have g2:=b2g dy hv (i:=mid+(p.length+x.length) - 1 - (i+j) / 2) (by simp;omega);have Du:=Dx u (r2v hu);have Dv:=Dy v (r2v hv);simp only[a0a,c0g,e,u2j,hh,ww,tnat,a0r g1,g1,a0r g2,g2,r2g,H.ok n hn v u Dv Du,hu,hv,t0h (show(i+j) / 2<=4000000000 by omega)])
  (λfuel i b1 b2=>by
   have e:decide ((i:Int)<(i:Int))=false:=by simp
   simp only[a0a,c0g,e,u2k])
  (λh h' b1 b2 b3 hF=>by
   obtain⟨u,hu⟩:=gx h b1 (by omega);obtain⟨v,hv⟩:=gy h b1 (by omega);obtain⟨u',cK⟩:=gx h' (by omega) b3;obtain⟨v',cM⟩:=gy h' (by omega) b3;rw[cK,cM]at hF;rw[hu,hv];dsimp only at hF⊢;simp only[s2v,decide_eq_false_iff_not]at hF⊢;have k1:=g0w H sx Dx hu cK (by omega);have k2:=g0w H sy Dy cM hv (by omega);have Du:=Dx u (r2v hu);have Dv:=Dy v (r2v hv);have Du' :=Dx u' (r2v cK);have Dv' :=Dy v' (r2v cM);exact H.tr u u' v Du Du' Dv k1 (H.tr u' v' v Du' Dv' Dv hF k2))
  n st r (r2q _) h2 (r2q _) (by omega) (λh b1 b2=>by omega) (λh b1 b2=>by omega)
 rw[a5,f2d];obtain⟨A1,A2,hx,hA⟩:∃A1 A2,x=A1++A2/\A1.length=s - p.length:=⟨x.take (s - p.length),x.drop (s - p.length),by simp,by simp;omega⟩;obtain⟨B1,B2,hy,hB⟩:∃B1 B2,y=B1++B2/\B1.length=mid - s:=⟨y.take (mid - s),y.drop (mid - s),by simp,by simp;omega⟩;have lx:x.length=A1.length+A2.length:=by rw[hx];simp
 have ly:y.length=B1.length+B2.length:=by rw[hy];simp
 have fV:∀a∈A1,∀b∈B2,¬c b a<0:=by
  intro a ha b hb;obtain⟨i,hi,e1⟩:=List.mem_iff_getElem.1 ha;obtain⟨j,hj,e2⟩:=List.mem_iff_getElem.1 hb;have ga:x[i]?=some a:=by rw[hx,s2w hi, <-e1];simp
  have gb:y[B1.length+j]?=some b:=by rw[hy,t2c (by omega),show B1.length+j - B1.length=j by omega, <-e2];simp
  have hs:st<s:=by omega
  have hF:=a3 (s - 1) (by omega) (by omega);obtain⟨u,hu⟩:=gx (s - 1) (by omega) (by omega);obtain⟨v,hv⟩:=gy (s - 1) (by omega) (by omega);rw[hu,hv]at hF;simp only[s2v,decide_eq_false_iff_not]at hF;have k1:=g0w H sx Dx ga hu (by omega);have k2:=g0w H sy Dy hv gb (by omega);exact H.tr a u b (Dx a (r2v ga)) (Dx u (r2v hu)) (Dy b (r2v gb)) k1 (H.tr u v b (Dx u (r2v hu)) (Dy v (r2v hv)) (Dy b (r2v gb)) hF k2)
 have lF:∀b∈B1,∀a∈A2,¬c a b<0:=by
  intro b hb a ha;obtain⟨i,hi,e1⟩:=List.mem_iff_getElem.1 ha;obtain⟨j,hj,e2⟩:=List.mem_iff_getElem.1 hb;have ga:x[A1.length+i]?=some a:=by rw[hx,t2c (by omega),show A1.length+i - A1.length=i by omega, <-e1];simp
  have gb:y[j]?=some b:=by rw[hy,s2w hj, <-e2];simp
  have hs:s<r:=by omega
  have hF:=a4 s (r2q _) hs;obtain⟨u,hu⟩:=gx s (by omega) (by omega);obtain⟨v,hv⟩:=gy s (by omega) (by omega);rw[hu,hv]at hF;simp only[Bool.not_eq_false',decide_eq_true_iff]at hF;have k1:=g0w H sx Dx hu ga (by omega);have k2:=g0w H sy Dy gb hv (by omega);exact H.tr b v a (Dy b (r2v gb)) (Dy v (r2v hv)) (Dx a (r2v ga)) k2 (H.tr v u a (Dy v (r2v hv)) (Dx u (r2v hu)) (Dx a (r2v ga)) (H.asy v u (Dy v (r2v hv)) (Dx u (r2v hu)) hF) k1)
 subst hx hy;obtain⟨z,z1,z2,z3⟩:=g2v H hS n p A1 A2 B1 B2 q sx sy hD fV lF (by omega) (by omega) (by omega) (by omega) mid (by omega);refine⟨z,z1,z2,?_⟩;have e1:p.length+(A1++A2).length=p.length+A1.length+A2.length:=by omega
 have e2:p.length+A1.length+A2.length+(B1++B2).length=p.length+A1.length+A2.length+B1.length+B2.length:=by omega
 have e3:s=p.length+A1.length:=by omega
 rw[e1,e2,e3];exact z3
theorem m2m(H:Cmp cmp c D K){self}{L:Nat}(hS:a1j c D self L)(n:Nat)(hn:K<=n)(hf:L+4<n):a1j c D (i0x cmp self n) (L+1):=by
 intro p x y q hx hy sx sy hD hl hL;have lx:0<x.length:=List.length_pos_iff.2 hx;have ly:0<y.length:=List.length_pos_iff.2 hy;unfold i0x;dsimp only;rw[wsub (a:=p.length+x.length) (b:=p.length) (c:=x.length) (by omega) (by omega),wsub (a:=p.length+x.length+y.length) (b:=p.length+x.length) (c:=y.length) (by omega) (by omega)];cases c1:((x.length:Int)==1)with
 |true=>
  have h1:x.length=1:=by have:=eq_of_beq c1;omega
  obtain⟨x0,rfl⟩:=List.length_eq_one_iff.1 h1;rw[u2j];obtain⟨z,z1,z2,z3⟩:=x1a H self n hn p y q x0 sy (by simpa using hD) (by simpa using hl) (by simp at hL;omega);refine⟨z,z1,z2,?_⟩;have e:p++ [x0]++y++q=p++x0::(y++q):=by simp
  rw[e];exact z3
 |false=>
 rw[u2k];cases c2:((y.length:Int)==1)with
 |true=>
  have h1:y.length=1:=by have:=eq_of_beq c2;omega
  obtain⟨y0,rfl⟩:=List.length_eq_one_iff.1 h1;rw[u2j];obtain⟨z,z1,z2,z3⟩:=n1k H self n hn p x q y0 sx hD (by simp at hl;omega) (by simp at hL;omega);refine⟨z,z1,z2,?_⟩;have e:p++x++ [y0]++q=p++x++y0::q:=by simp
  rw[e];exact z3
 |false=>
 rw[u2k]
 have jx:2<=x.length:=by have:(x.length:Int)≠1:=by simpa using c1
                         omega
 have hy2:2<=y.length:=by have:(y.length:Int)≠1:=by simpa using c2
                          omega
 rw[a2z (i:=p.length) (j:=p.length+x.length+y.length) (by omega)];generalize hmid:(p.length+(p.length+x.length+y.length)) / 2=mid;rw[wadd (a:=mid) (b:=p.length+x.length) (by omega),l1y (a:=mid+(p.length+x.length)) (c:=mid+(p.length+x.length) - 1) (by omega) (by omega)];cases c3:decide (((p.length+x.length:Nat):Int) >(mid:Int))with
 |true=>
  have h3:mid<p.length+x.length:=by have:=of_decide_eq_true c3;omega
  rw[u2j,wsub (a:=mid+(p.length+x.length)) (b:=p.length+x.length+y.length) (c:=mid+(p.length+x.length) - (p.length+x.length+y.length)) (by omega) (by omega)];exact b1h H hS n hn p x y q sx sy hD hl (by omega) mid (mid+(p.length+x.length) - (p.length+x.length+y.length)) mid (by omega) (by omega) (by omega) (by omega) (by omega) (.inr (by omega)) (.inr (by omega)) (by omega) (by omega) (by omega) (by omega) (by omega)
 |false=>
  have h3:p.length+x.length<=mid:=by have:=of_decide_eq_false c3;omega
  rw[u2k];exact b1h H hS n hn p x y q sx sy hD hl (by omega) mid p.length (p.length+x.length) (by omega) (by omega) (by omega) (by omega) (by omega) (.inl rfl) (.inl rfl) (by omega) (by omega) (by omega) (by omega) (by omega)
theorem h2h(H:Cmp cmp c D K):∀(n L:Nat),L+K+6<=n->a1j c D (g0n cmp n) L
 | 0,L,h=>by omega
 |n+1,0,h=>λp x y q hx _ _ _ _ _ hL=>absurd (u2d.1 (by omega)) hx
 |n+1,L+1,h=>m2m H (h2h H n L (by omega)) n (by omega) (by omega)
def BL(c:α->α->Int)(s:Nat)(B:List (List α)):Prop:=∀b∈B,b.length=s/\a0t c b
theorem BL.add {s:Nat}{B:List (List α)}{z:List α}(h:BL c s B)(h1:z.length=s)(h2:a0t c z):BL c s (B++ [z]):=by
 intro b hb;rcases s2j.1 hb with h'|h'
 ·exact h b h'
 ·rw[s2e.1 h'];exact⟨h1,h2⟩
theorem c2r(H:Cmp cmp c D K)(n len:Nat)(hn:K+40<=n){ρ:Type}(kx:Int×Int×Int×(List α)×Unit->Option ρ)(kr:Unit->Option ρ):∀(k:Nat) (t:List α) (B:List (List α)) (fuel:Nat),t.length<=k->BL c 20 B->(∀z∈t,D z)->
  len=B.flatten.length+t.length->len<=100000000->t.length<fuel->
  ∃B' t',BL c 20 B' /\t'.length<20/\(B'.flatten++t').Perm (B.flatten++t)/\(∀z∈t',D z)/\
   a0a (λrc=>f0p cmp n rc kx kr) fuel ((len:Int),20,(B.flatten.length:Int),((B.flatten.length+20:Nat):Int),B.flatten++t,())=kx ((len:Int),20,(B'.flatten.length:Int),B'.flatten++t',()):=by
 intro k
 induction k with
 |zero=>
  intro t B fuel hk hB hD hlen hl hf;obtain⟨m,rfl⟩:∃m,fuel=m+1:=⟨fuel - 1,by omega⟩;refine⟨B,t,hB,by omega,List.Perm.refl _,hD,?_⟩;have e:decide (((B.flatten.length+20:Nat):Int)<=(len:Int))=false:=by rw[decide_eq_false_iff_not];omega
  simp only[a0a,f0p,e,u2k]
 |succ k ih=>
  intro t B fuel hk hB hD hlen hl hf;obtain⟨m,rfl⟩:∃m,fuel=m+1:=⟨fuel - 1,by omega⟩;rcases t2y t.length 20 with nL|nL
  ·refine⟨B,t,hB,nL,List.Perm.refl _,hD,?_⟩
   have e:decide (((B.flatten.length+20:Nat):Int)<=(len:Int))=false:=by rw[decide_eq_false_iff_not];omega
   simp only[a0a,f0p,e,u2k]
  ·have e:decide (((B.flatten.length+20:Nat):Int)<=(len:Int))=true:=by rw[decide_eq_true_iff];omega
   obtain⟨t1,t2,ht,oo⟩:∃t1 t2,t=t1++t2/\t1.length=20:=⟨t.take 20,t.drop 20,by simp,by simp [-List.length_flatten];omega⟩;subst ht;have aJ:(t1++t2).length=t1.length+t2.length:=by simp [-List.length_flatten]
   obtain⟨s,s1,s2,s3⟩:=o0s H n (by omega) B.flatten t1 t2 (λz hz=>hD z (by simp [-List.length_flatten,hz])) (by omega) (by omega);have ls:s.length=20:=by rw[s1.length_eq];exact oo
   rw[oo]at s3;have hd:B.flatten++(t1++t2)=B.flatten++t1++t2:=by simp [-List.length_flatten]
   have ww:wI (((B.flatten.length+20:Nat):Int)+20)=((B.flatten.length+20+20:Nat):Int):=wadd (b:=20) (by omega);rw[hd];simp only[a0a,f0p,e,u2j,s3,r2g,ww];have bS:(B++ [s]).flatten=B.flatten++s:=by simp [-List.length_flatten]
   obtain⟨B',t',b1,b2,b3,b4,b5⟩:=ih t2 (B++ [s]) m (by omega) (hB.add ls s2) (λz hz=>hD z (by simp [-List.length_flatten,hz])) (by rw[bS];simp [-List.length_flatten];omega) hl (by omega);refine⟨B',t',b1,b2,b3.trans ?_,b4,?_⟩
   ·rw[bS]
    exact((s1.append_left _).append_right _)
   ·have e1:B.flatten.length+20=(B++ [s]).flatten.length:=by rw[bS];simp [-List.length_flatten];omega
    have e2:B.flatten++s++t2=(B++ [s]).flatten++t2:=by rw[bS]
    rw[e1,e2];exact b5
theorem b2r(H:Cmp cmp c D K)(n len s:Nat)(hn:len+K+6<=n)(last:List α)(kW:0<s)(bW:last.length<s){ρ:Type}(kx:Int×Int×Int×(List α)×Unit->Option ρ)(kr:Unit->Option ρ):∀(k:Nat) (B C:List (List α)) (fuel:Nat),B.length<=k->BL c s B->BL c (2*s) C->
  (∀z∈B.flatten,D z)->len=C.flatten.length+B.flatten.length+last.length->len<=100000000->s<=len->B.length<fuel->
  ∃C' B',B'.length<=1/\BL c s B' /\BL c (2*s) C' /\(C'.flatten++B'.flatten).Perm (C.flatten++B.flatten)/\(∀z∈B'.flatten,D z)/\
   a0a (λrc=>f0j cmp n rc kx kr) fuel ((len:Int),(s:Int),(C.flatten.length:Int),((C.flatten.length+2*s:Nat):Int),C.flatten++B.flatten++last,())=kx ((len:Int),(s:Int),(C'.flatten.length:Int),C'.flatten++B'.flatten++last,()):=by
 intro k
 induction k using Nat.strongRecOn with
 |ind k ih=>
 intro B C fuel hk hB hC hD hlen hl iP hf;obtain⟨m,rfl⟩:∃m,fuel=m+1:=⟨fuel - 1,by omega⟩
 match B,hk,hB,hD,hlen,hf with
 |[],hk,hB,hD,hlen,hf=>
  refine⟨C,[],by simp,hB,hC,List.Perm.refl _,hD,?_⟩;have e:decide (((C.flatten.length+2*s:Nat):Int)<=(len:Int))=false:=by rw[decide_eq_false_iff_not];simp [-List.length_flatten]at hlen;omega
  simp only[a0a,f0j,e,u2k]
 |[b],hk,hB,hD,hlen,hf=>
  refine⟨C,[b],by simp,hB,hC,List.Perm.refl _,hD,?_⟩;have lb:=(hB b (by simp [-List.length_flatten])).1;have e:decide (((C.flatten.length+2*s:Nat):Int)<=(len:Int))=false:=by rw[decide_eq_false_iff_not];simp [-List.length_flatten]at hlen;omega
  simp only[a0a,f0j,e,u2k]
 |b1::b2::B,hk,hB,hD,hlen,hf=>
  obtain⟨l1,o1⟩:=hB b1 (by simp [-List.length_flatten]);obtain⟨l2,o2⟩:=hB b2 (by simp [-List.length_flatten]);have jy:(b1::b2::B).flatten=b1++b2++B.flatten:=by simp [-List.length_flatten]
  rw[jy]at hD hlen;have ot:len=C.flatten.length+(b1.length+b2.length+B.flatten.length)+last.length:=by simpa[u2h, -List.length_flatten]using hlen
  have e:decide (((C.flatten.length+2*s:Nat):Int)<=(len:Int))=true:=by rw[decide_eq_true_iff];omega
  obtain⟨z,z1,z2,z3⟩:=h2h H n len hn C.flatten b1 b2 (B.flatten++last) (by intro h0;subst h0;simp [-List.length_flatten]at l1;omega) (by intro h0;subst h0;simp [-List.length_flatten]at l2;omega) o1 o2 (λz hz=>hD z (by simp [-List.length_flatten]at hz⊢;rcases hz with h|h<;>simp[h])) (by simp [-List.length_flatten];omega) (by omega)
  have lz:z.length=2*s:=by rw[z1.length_eq];simp [-List.length_flatten];omega
  have w1:wI ((C.flatten.length:Int)+(s:Int))=((C.flatten.length+b1.length:Nat):Int):=by rw[l1];exact wadd (by omega)
  have w2:wI (2*(s:Int))=((2*s:Nat):Int):=by rw[a0f (by omega) (by omega)];omega
  have w3:wI (((C.flatten.length+2*s:Nat):Int)+((2*s:Nat):Int))=((C.flatten.length+2*s+2*s:Nat):Int):=wadd (by omega);have e2:C.flatten.length+2*s=C.flatten.length+b1.length+b2.length:=by omega
  have hd:C.flatten++(b1::b2::B).flatten++last=C.flatten++b1++b2++(B.flatten++last):=by simp [-List.length_flatten]
  rw[hd];simp only[a0a,f0j,e,u2j,w1,w2,w3];rw[show((C.flatten.length+2*s:Nat):Int)=((C.flatten.length+b1.length+b2.length:Nat):Int)by rw[e2],z3];simp only[r2g];have bS:(C++ [z]).flatten=C.flatten++z:=by simp [-List.length_flatten]
  obtain⟨C',B',c1,c2,c3,c4,c5,c6⟩:=ih (k - 2) (by simp [-List.length_flatten]at hk;omega) B (C++ [z]) m (by simp [-List.length_flatten]at hk;omega) (λb hb=>hB b (by simp[hb])) (hC.add lz z2) (λz hz=>hD z (by simp [-List.length_flatten]at hz⊢;simp[hz])) (by rw[bS];simp [-List.length_flatten];omega) hl iP (by simp [-List.length_flatten]at hf;omega);refine⟨C',B',c1,c2,c3,c4.trans ?_,c5,?_⟩
  ·rw[bS,jy,s2t]
   exact List.Perm.append_left _ (z1.append_right _)
  ·have q1:C.flatten.length+b1.length+b2.length=(C++ [z]).flatten.length:=by rw[bS];simp [-List.length_flatten];omega
   have q2:C.flatten.length+2*s+2*s=(C++ [z]).flatten.length+2*s:=by rw[bS];simp [-List.length_flatten];omega
   have q3:C.flatten++z++(B.flatten++last)=(C++ [z]).flatten++B.flatten++last:=by rw[bS];simp [-List.length_flatten]
   rw[q1,q2,q3];exact c6
def j2l(cmp:Nat->α×α×Unit->Option Y5)(n:Nat){ρ:Type}(kx:(List α)×Unit->Option ρ)(kr:Unit->Option ρ)(m:Nat):Int×Int×Int×(List α)×Unit->Option ρ:=
 λ(fq,v24,v25,gg,_)=>
  (bif decide ((wI (v25+v24):Int)<fq)then
  (g0n cmp n (v25,wI (v25+v24),fq,gg,())).bind λ(iR,_)=>a0a (λrc=>c0u cmp n rc kx kr) m (fq,wI (v24*2),iR,())
  else a0a (λrc=>c0u cmp n rc kx kr) m (fq,wI (v24*2),gg,()))
theorem z1z(H:Cmp cmp c D K)(n len:Nat)(hn:len+K+6<=n){ρ:Type}(kx:(List α)×Unit->Option ρ)(kr:Unit->Option ρ):∀(k s:Nat) (B:List (List α)) (last:List α) (fuel:Nat),len - s<=k->0<s->s<=4*len+20->BL c s B->last.length<s->a0t c last->
  (∀z∈B.flatten++last,D z)->len=B.flatten.length+last.length->len<=100000000->k<fuel->
  ∃d,d.Perm (B.flatten++last)/\a0t c d/\a0a (λrc=>c0u cmp n rc kx kr) fuel ((len:Int),(s:Int),B.flatten++last,())=kx (d,()):=by
 intro k
 induction k using Nat.strongRecOn with
 |ind k ih=>
 intro s B last fuel hk kW hs4 hB bW slast hD hlen hl hf;obtain⟨m,rfl⟩:∃m,fuel=m+1:=⟨fuel - 1,by omega⟩;rcases t2y s len with iP|iP
 ·have e:decide ((s:Int)<(len:Int))=true:=by rw[decide_eq_true_iff];omega
  have w0:wI (2*(s:Int))=((([]:List (List α)).flatten.length+2*s:Nat):Int):=by rw[a0f (by omega) (by omega)];simp [-List.length_flatten]
  have w1:wI ((s:Int)*2)=((2*s:Nat):Int):=by rw[a0f (by omega) (by omega)];omega
  have hBl:B.length<=B.flatten.length:=by
   clear ih hf hk hD hlen
   induction B with
   |nil=>simp [-List.length_flatten]
   |cons b B ihB=>
    have:=(hB b (by simp [-List.length_flatten])).1;have:=ihB (λb hb=>hB b (by simp[hb]));simp [-List.length_flatten];omega
  obtain⟨C,B',c1,c2,c3,c4,c5,c6⟩:=b2r H n len s hn last kW bW (j2l cmp n kx kr m) (λ(_)=>none) B.length B [] n (r2q _) hB (by intro b hb;cases hb) (λz hz=>hD z (by simp [-List.length_flatten]at hz⊢;simp[hz])) (by simpa [-List.length_flatten]using hlen) hl (by omega) (by omega);simp only[List.flatten_nil,List.length_nil,s2m]at c4 c6;have DC:∀z∈C.flatten++B'.flatten,D z:=λz hz=>hD z (by have:=c4.mem_iff.1 hz;simp [-List.length_flatten]at this⊢;simp[this]);have lC:C.flatten.length+B'.flatten.length=B.flatten.length:=by have:=c4.length_eq;simpa [-List.length_flatten]using this
  simp only[a0a,c0u,e,u2j];rw[show wI (2*(s:Int))=((0+2*s:Nat):Int)from w0]
  suffices key:∃d:List α,d.Perm (B.flatten++last)/\a0t c d/\j2l cmp n kx kr m ((len:Int),(s:Int),(C.flatten.length:Int),C.flatten++B'.flatten++last,())=kx (d,())by
   obtain⟨d,d1,d2,d3⟩:=key;exact⟨d,d1,d2,c6.trans d3⟩
  unfold j2l;dsimp only
  match B',c1,c2,c4,c5,lC,DC with
  |[],_,_,c4,c5,lC,DC=>
   simp only[List.flatten_nil,s2a,List.length_nil,u2e]at c4 lC DC⊢;have ww:wI ((C.flatten.length:Int)+(s:Int))=((C.flatten.length+s:Nat):Int):=wadd (by omega);have e2:decide (((C.flatten.length+s:Nat):Int)<(len:Int))=false:=by rw[decide_eq_false_iff_not];omega
   rw[ww,e2,u2k,w1];obtain⟨d,d1,d2,d3⟩:=ih (len - 2*s) (by omega) (2*s) C last m (r2q _) (by omega) (by omega) c3 (by omega) slast (λz hz=>by
    rcases s2j.1 hz with h|h
    ·exact DC z h
    ·exact hD z (by simp[h])) (by omega) hl (by omega)
   exact⟨d,d1.trans (c4.append_right _),d2,d3⟩
  |[b],_,c2,c4,c5,lC,DC=>
   obtain⟨lb,ob⟩:=c2 b (by simp [-List.length_flatten]);simp only[List.flatten_cons,List.flatten_nil,s2a]at c4 lC DC⊢;have ww:wI ((C.flatten.length:Int)+(s:Int))=((C.flatten.length+b.length:Nat):Int):=by rw[lb];exact wadd (by omega)
   cases last with
   |nil=>
    have e2:decide (((C.flatten.length+b.length:Nat):Int)<(len:Int))=false:=by rw[decide_eq_false_iff_not];simp [-List.length_flatten]at hlen;omega
    rw[ww,e2,u2k,w1];obtain⟨d,d1,d2,d3⟩:=ih (len - 2*s) (by omega) (2*s) C b m (r2q _) (by omega) (by omega) c3 (by omega) ob DC (by simp [-List.length_flatten]at hlen;omega) hl (by omega);refine⟨d,by simpa [-List.length_flatten]using d1.trans c4,d2,?_⟩;rw[s2a];exact d3
   |cons y last=>
    have e2:decide (((C.flatten.length+b.length:Nat):Int)<(len:Int))=true:=by rw[decide_eq_true_iff];simp [-List.length_flatten]at hlen;omega
    rw[ww,e2,u2j,w1];obtain⟨z,z1,z2,z3⟩:=h2h H n len hn C.flatten b (y::last) [] (by intro h0;subst h0;simp [-List.length_flatten]at lb;omega) (by simp [-List.length_flatten]) ob slast (λz hz=>by
     rcases s2j.1 hz with h|h
     ·exact DC z (by simp[h])
     ·exact hD z (List.mem_append_right _ h)) (by simp [-List.length_flatten]at hlen⊢;omega) (by simp [-List.length_flatten]at hlen⊢;omega)
    have lz:z.length=b.length+(y::last).length:=by rw[z1.length_eq];simp [-List.length_flatten]
    have e3:C.flatten.length+b.length+(y::last).length=len:=by simp [-List.length_flatten]at hlen⊢;omega
    rw[e3]at z3;simp only[s2a]at z3;rw[z3];simp only[r2g];obtain⟨d,d1,d2,d3⟩:=ih (len - 2*s) (by omega) (2*s) C z m (r2q _) (by omega) (by omega) c3 (by simp [-List.length_flatten]at lz bW;omega) z2 (λw hw=>by
     rcases s2j.1 hw with h|h
     ·exact DC w (by simp[h])
     ·rcases s2j.1 (z1.mem_iff.1 h)with h|h
      ·exact DC w (by simp[h])
      ·exact hD w (List.mem_append_right _ h)) (by omega) hl (by omega)
    refine⟨d,d1.trans ?_,d2,d3⟩;refine(z1.append_left _).trans ?_;rw [<-s2t];exact c4.append_right _
  |_::_::_,c1,_,_,_,_,_=>simp [-List.length_flatten]at c1
 ·have e:decide ((s:Int)<(len:Int))=false:=by rw[decide_eq_false_iff_not];omega
  refine⟨B.flatten++last,List.Perm.refl _,?_,by simp only[a0a,c0u,e,u2k]⟩
  match B,hB,hlen with
  |[],_,_=>simpa [-List.length_flatten]using slast
  |[b],hB,hlen=>
   obtain⟨lb,ob⟩:=hB b (by simp [-List.length_flatten]);have:last=[]:=u2d.1 (by simp [-List.length_flatten]at hlen;omega);subst this;simpa [-List.length_flatten]using ob
  |b1::b2::B,hB,hlen=>
   have l1:=(hB b1 (by simp [-List.length_flatten])).1;have l2:=(hB b2 (by simp [-List.length_flatten])).1;simp [-List.length_flatten]at hlen;omega
theorem i2f(H:Cmp cmp c D K)(n:Nat)(d:List α)(hD:∀z∈d,D z)(hl:d.length<=100000000)(hn:d.length+K+60<=n):
  ∃s,s.Perm d/\a0t c s/\f0b cmp n (d,())=some (s,()):=by
 unfold f0b k1f;dsimp only;obtain⟨B,t,b1,b2,b3,b4,b5⟩:=c2r H n d.length (by omega) (λ(v9,v10,v11,dH,_)=>
  (b0z cmp n (v11,v9,dH,())).bind λ(iS,_)=>
  a0a (λcI=>c0u cmp n cI (λ(gw,_)=>some (gw,())) (λ(_)=>none)) (n) (v9,v10,iS,())) (λ(_)=>none) d.length d [] n (r2q _) (by intro b hb;cases hb) hD (by simp [-List.length_flatten]) hl (by omega)
 simp only[List.flatten_nil,List.length_nil,s2m]at b3 b5;rw[show(20:Int)=((0+20:Nat):Int)from rfl]at b5⊢
 have nI:=b5;rw[show((0:Nat):Int)=0 from rfl]at nI
 rw[nI];have ql:B.flatten.length+t.length=d.length:=by have:=b3.length_eq;simpa [-List.length_flatten]using this
 obtain⟨s,s1,s2,s3⟩:=o0s H n (by omega) B.flatten t [] b4 (by simp [-List.length_flatten];omega) (by omega);simp only[s2a]at s3;rw[ql]at s3;rw[s3,r2g];dsimp only;have ls:=s1.length_eq;obtain⟨r,r1,r2,r3⟩:=z1z H n d.length (by omega) (λ(gw,_)=>some (gw,())) (λ(_)=>none) d.length 20 B s n (by omega) (by omega) (by omega) b1 (by omega) s2 (λz hz=>by
  refine hD z (b3.mem_iff.1 ?_);rcases s2j.1 hz with h|h
  ·simp[h]
  ·exact List.mem_append_right _ (s1.mem_iff.1 h)) (by omega) hl (by omega)
 refine⟨r,r1.trans ((s1.append_left _).trans b3),r2,?_⟩;rw[show((0+20:Nat):Int)=((20:Nat):Int)from rfl,r3]
 rfl
end
theorem Cnt.eta (c:Cnt):Cnt.mk c.r c.n=c:=rfl
def big(n:Int):Bool:=(decide (n>1099511627776)) || (decide (n<(-1099511627776)))
def m1j:Option Y9->List Val->Bool
 |none,_=>false
 |some p,x=>decide (ordL p x>=0)
def bgF:Option Y9->List Cnt->Int
 |_,[]=>0
 |prev,c::r=>bif decide ((c.r.length:Int) >30)then 2 else bif chks c.r 1 !=0 then chks c.r 1 else bif c.n==0 then 6 else bif m1j prev c.r then 6 else bif big c.n then 9 else bgF (some c.r) r
def bgE(l:List Cnt):Int:=bif decide ((l.length:Int) >2000)then 2 else bgF none l
def bSz:List Cnt->Nat
 |[]=>0
 |c::r=>lSz c.r+bSz r
theorem n0x:∀{l:List Cnt} {c:Cnt},c∈l->lSz c.r<=bSz l
 |y::r,c,h=>by
  rw[bSz];rcases r2s.1 h with rfl|h
  ·omega
  ·have:=n0x h;omega
def bgB(l:List Cnt):Int->Cnt->Unit->(Unit->Option Y5)->Option Y5:=λi c _ rec=>
 bif decide ((c.r.length:Int) >30)then some (2,())else bif chks c.r 1 !=0 then some (chks c.r 1,())else bif c.n==0 then some (6,())else
  bif decide (i>0)then(ix l (wI (i - 1))).bind λp=>bif decide (ordL p.r c.r>=0)then some (6,())else bif big c.n then some (9,())else rec ()else bif big c.n then some (9,())else rec ()
def l1z(p:List Cnt):Option Y9:=p.getLast?.map Cnt.r
theorem s1x(l:List Cnt)(hl:l.length<=2000):∀(r p:List Cnt),l=p++r->a0b (bgB l) (λ_=>some (0,())) (p.length:Int) r ()=some (bgF (l1z p) r,())
 |[],_,_=>rfl
 |x::r,p,hp=>by
  have e1:((p.length:Int)+1)=((p++ [x]).length:Int):=by simp
  have e2:l1z (p++ [x])=some x.r:=by unfold l1z;simp
  have hlen:p.length<2000:=by rw[hp]at hl;simp at hl;omega
  rw[a0b,bgB,e1,s1x l hl r (p++ [x]) (by simp[hp]),e2,bgF];cases decide ((x.r.length:Int) >30)
  ·cases chks x.r 1 !=0
   ·cases x.n==0
    ·rcases(show p=[]\/ ∃q y,p=q++ [y]by
      rcases List.eq_nil_or_concat p with h|⟨q,y,h⟩
      ·exact .inl h
      ·exact .inr ⟨q,y,by rw[h];simp⟩)with rfl|⟨q,y,rfl⟩
     ·simp only[u2k]
      rw[show decide ((([]:List Cnt).length:Int) >0)=false from rfl,u2k,show m1j (l1z []) x.r=false from rfl,u2k]
      cases big x.n<;>rfl
     ·have e3:l1z (q++ [y])=some y.r:=by unfold l1z;simp
      have e4:wI (((q++ [y]).length:Int) - 1)=(q.length:Int):=by simp at hlen;rw[r2t,s2y,a0f (by omega) (by omega)];omega
      have e5:ix l (q.length:Int)=some y:=a0r (by rw[hp];simp);simp only[u2k];rw[e3,e4,e5,decide_eq_true (show(((q++ [y]).length:Int) >0)by rw[r2t,s2y];omega),u2j,r2g,m1j];cases decide (ordL y.r x.r>=0)
      ·cases big x.n<;>rfl
      ·rfl
    ·rfl
   ·rfl
  ·rfl
theorem q1l{ρ:Type}(n:Nat)(hn:40<=n)(l:List Val)(hl:l.length<=30)(v7:List Cnt)(v8:Int)(v9:List Cnt)(v10 v11:Int)(o:Cnt×Unit)(kx:List Cnt×Int×List Cnt×Int×Int×(Cnt×Unit)×Unit->Option ρ)(kr:Int×Unit->Option ρ):
  a0a (λrc=>g0a n rc kx kr) n (v7,v8,v9,v10,v11,l,(l.length:Int),0,o,())=bif chks l 1 !=0 then kr (chks l 1,())else kx (v7,v8,v9,v10,v11,(o.1,()),()):=by
 rw[t0j n kx kr l n v7 v8 v9 v10 v11 o (by omega) (by omega)];have key:∀(r:List Val) (i:Int),a0b (g0l n kr) (λ(x:List Cnt×Int×List Cnt×Int×Int×(Cnt×Unit)×Unit)=>kx (x.1,x.2.1,x.2.2.1,x.2.2.2.1,x.2.2.2.2.1,((Cnt.mk x.2.2.2.2.2.1.1.r x.2.2.2.2.2.1.1.n),()),())) i r (v7,v8,v9,v10,v11,(o.1,()),())=bif chks r 1 !=0 then kr (chks r 1,())else kx (v7,v8,v9,v10,v11,(o.1,()),()):=by
  intro r
  induction r with
  |nil=>intro i;rfl
  |cons x r ih=>
   intro i;rw[a0b,chks];unfold g0l;dsimp only;rw[Val.eta,l0s x n hn,r2g];dsimp only;cases hc:chk x 1 !=0
   ·rw[u2k,u2k]
    exact ih (i+1)
   ·rw[u2j,u2j,hc];rfl
 exact key l 0
theorem d2b{α:Type}{l:List α}{i:Int}{x:α}(h:ix l i=some x):x∈l:=by
 unfold ix at h;split at h
 ·exact r2v h
 ·cases h
theorem z0z(l:List Cnt)(n:Nat)(hw:∀c∈l,cOk c)(hn:bSz l+2100<=n):g0v n (l,())=some (bgE l,()):=by
 unfold g0v bgE;dsimp only;cases hb:decide ((l.length:Int) >2000)with
 |true=>rfl
 |false=>
  have h4:=of_decide_eq_false hb;rw[u2k,u2k];refine(c0j l (λi (u:Unit)=>(l,l,(l.length:Int),i,())) _ (bgB l) (λ_=>some (0,())) (λrec i u=>?_) (by omega) n () (by omega)).trans (s1x l (by omega) l [] rfl);unfold i0i bgB;dsimp only;cases decide (i<(l.length:Int))
  ·rfl
  ·rw[u2j,u2j]
   cases hx:ix l i with
   |none=>rfl
   |some c=>
    rw[r2g,r2g];cases h5:decide ((c.r.length:Int) >30)
    ·have h5:=of_decide_eq_false h5
     rw[u2k,u2k];refine(q1l n (by omega) c.r (by omega) l i l _ i (c,()) _ _).trans ?_;cases chks c.r 1 !=0
     ·rw[u2k,u2k]
      dsimp only;cases c.n==0
      ·rw[u2k,u2k]
       cases decide (i>0)
       ·rfl
       ·rw[u2j,u2j]
        cases hp:ix l (wI (i - 1))with
        |none=>rfl
        |some p=>
         have hm:=d2b hp;rw[r2g,r2g,n0l p.r c.r n (hw p hm).1.1 (hw p hm).1.2 (by have:=n0x hm;omega),r2g];rfl
      ·rfl
     ·rfl
    ·rfl
theorem a1z{α ρ:Type}(l:List α)(f:Int->α->Unit->(Unit->Option ρ)->Option ρ)(k:Unit->Option ρ)(h:∀x∈l,∀(i:Int) rec,ix l i=some x->f i x () rec=rec ()):∀(r p:List α),l=p++r->a0b f k (p.length:Int) r ()=k ()
 |[],_,_=>rfl
 |x::r,p,hp=>by
  have e1:((p.length:Int)+1)=((p++ [x]).length:Int):=by simp
  rw[a0b,h x (by rw[hp];simp) _ _ (a0r (by rw[hp];simp)),e1,a1z l f k h r (p++ [x]) (by simp[hp])]
theorem w0q{n b:Nat}(h:n<=2000000)(hb:b<=1000):room n b=true:=by
 unfold room;rw[r2i];exact⟨r2y (by omega),r2y (by have:n*b<=2000000*1000:=Nat.mul_le_mul h hb;omega)⟩
theorem l2w:∀{l:List Cnt} {prev:Option Y9},bgF prev l=0->∀c∈l,c.r.length<=30/\chks c.r 1=0
 |[],_,_=>λx hx=>(by cases hx)
 |c::r,prev,h=>by
  rw[bgF]at h;cases h1:decide ((c.r.length:Int) >30)with
  |true=>rw[h1]at h;cases h
  |false=>
   rw[h1,u2k]at h;cases h2:chks c.r 1 !=0 with
   |true=>rw[h2,u2j]at h;rw[h]at h2;cases h2
   |false=>
    rw[h2,u2k]at h;cases h3:c.n==0 with
    |true=>rw[h3]at h;cases h
    |false=>
     cases h4:m1j prev c.r with
     |true=>rw[h3,h4]at h;cases h
     |false=>
      cases h5:big c.n with
      |true=>rw[h3,h4,h5]at h;cases h
      |false=>
       rw[h3,h4,h5]at h;intro x hx;rcases r2s.1 hx with rfl|hx
       ·exact⟨by have:=of_decide_eq_false h1;omega,by simpa using h2⟩
       ·exact l2w h x hx
theorem r2e{l:List Cnt}(h:bgE l=0):l.length<=2000/\∀c∈l,c.r.length<=30/\chks c.r 1=0:=by
 unfold bgE at h;cases h1:decide ((l.length:Int) >2000)with
 |true=>rw[h1]at h;cases h
 |false=>rw[h1]at h;exact⟨by have:=of_decide_eq_false h1;omega,l2w h⟩
theorem h1z(l:List Cnt)(n:Nat)(hw:∀c∈l,cOk c)(hl:l.length<=2000)(hn:bSz l+2100<=n):q39z n (l,l,())=some (true,()):=by
 have e:q0z n (l,l,())=some (true,()):=by
  unfold q0z;dsimp only;rw[show((l.length:Int) !=(l.length:Int))=false by simp,u2k];refine(c0j l (λi (u:Unit)=>(l,l,(l.length:Int),i,())) _ (λ(i:Int) (x:Cnt) (u:Unit) (rec:Unit->Option Y11)=>(ix l i).bind λy=>(q32z n (x,y,())).bind λb=>bif !b.1 then some (false,())else rec ()) (λ_=>some (true,())) (λrec i u=>rfl) (by omega) n () (by omega)).trans ?_
  refine a1z l _ _ (λx hx i rec hi=>?_) l [] rfl;rw[hi,r2g];have e1:q32z n (x,x,())=some (true,()):=by
   unfold q32z;dsimp only;rw[beq_self_eq_true,u2j,g1d x.r x.r n (hw x hx).1.1 (hw x hx).1.2 (by have:=n0x hx;omega),r2g];dsimp only;rw[(i0n x.r x.r).2 rfl];rfl
  rw[e1];rfl
 unfold q39z;dsimp only;rw[e];rfl
def cf:List Cnt->List Val->Int
 |[],_=>0
 |c::l,r=>(bif ordL c.r r==0 then c.n else 0)+cf l r
theorem h0d(r:List Val):∀l m,cf (l++m) r=cf l r+cf m r
 |[],m=>by simp[cf]
 |c::l,m=>by simp only[List.cons_append,cf,h0d r l m];omega
theorem j2x(r:List Val){l m:List Cnt}(h:l.Perm m):cf l r=cf m r:=by
 induction h with
 |nil=>rfl
 |cons x _ ih=>simp only[cf,ih]
 |swap x y l=>simp only[cf];omega
 |trans _ _ ih1 ih2=>exact ih1.trans ih2
theorem d1q(a b:List Val):(ordL a b==0)=true↔a=b:=by rw[beq_iff_eq,i0n]
theorem x0p{r:List Val}:∀{l:List Cnt},(∀c∈l,c.r≠r)->cf l r=0
 |[],_=>rfl
 |c::l,h=>by
  have:(ordL c.r r==0)=false:=by
   cases hb:ordL c.r r==0 with
   |false=>rfl
   |true=>exact absurd ((d1q _ _).1 hb) (h c (by simp))
  rw[cf,this,u2k,x0p λd hd=>h d (by simp[hd])];rfl
abbrev e0s(l:List Cnt):Prop:=l.Pairwise λx y=>ordL x.r y.r<0
theorem r1b{a b:List Val}(h:ordL a b<0):a≠b:=by
 rintro rfl;rw[(i0n a a).2 rfl]at h;omega
theorem c0y(c:Cnt){l:List Cnt}(h:∀d∈l,ordL c.r d.r<0):cf (c::l) c.r=c.n:=by
 rw[cf,(d1q c.r c.r).2 rfl,u2j,x0p λd hd e=>r1b (h d hd) e.symm];omega
def CB(l:List Cnt):Prop:=e0s l/\∀c∈l,c.n≠0
theorem o2h:∀{a b:List Cnt},CB a->CB b->(∀r,cf a r=cf b r)->a=b
 |[],[],_,_,_=>rfl
 |[],y::b,_,hb,h=>by
  have:=h y.r;rw[c0y y (t2l.1 hb.1).1]at this;exact absurd this.symm (hb.2 y (by simp))
 |x::a,[],ha,_,h=>by
  have:=h x.r;rw[c0y x (t2l.1 ha.1).1]at this;exact absurd this (ha.2 x (by simp))
 |x::a,y::b,ha,hb,h=>by
  obtain⟨a1,a2⟩:=t2l.1 ha.1;obtain⟨b1,b2⟩:=t2l.1 hb.1;have hx:=h x.r;have hy:=h y.r;rw[c0y x a1]at hx;rw[c0y y b1]at hy;have hr:x.r=y.r:=by
   rcases Int.lt_trichotomy (ordL x.r y.r) 0 with aJ|heq|lK
   ·rw[x0p (l:=y::b) (r:=x.r) (λc hc e=>by
     rcases r2s.1 hc with rfl|hc
     ·exact r1b aJ e.symm
     ·exact r1b (k0d aJ (b1 c hc)) e.symm)]at hx
    exact absurd hx (ha.2 x (by simp))
   ·exact(i0n _ _).1 heq
   ·have aJ:ordL y.r x.r<0:=by rw[q0f x.r y.r];omega
    rw[x0p (l:=x::a) (r:=y.r) (λc hc e=>by
     rcases r2s.1 hc with rfl|hc
     ·exact r1b aJ e.symm
     ·exact r1b (k0d aJ (a1 c hc)) e.symm)]at hy
    exact absurd hy.symm (hb.2 y (by simp))
  have hn:x.n=y.n:=by
   rw[hr,c0y y b1]at hx;exact hx
  have e:x=y:=by cases x;cases y;simp at hr hn;rw[hr,hn]
  subst e;rw[o2h ⟨a2,λc hc=>ha.2 c (by simp[hc])⟩ ⟨b2,λc hc=>hb.2 c (by simp[hc])⟩ λr=>by have:=h r;rw[cf,cf]at this;omega]
def nz(c:Cnt):Bool:= !(c.n==0)
theorem a2a{l:List Cnt}(n:Nat)(hn:l.length<n)(hl:l.length<=100000):(∃i,q10z n (l,())=some (-1,())/\i=0/\∀c∈l,nz c=true)\/
  ∃p x t,l=p++x::t/\(∀c∈p,nz c=true)/\nz x=false/\q10z n (l,())=some ((p.length:Int),()):=by
 unfold q10z;dsimp only;rw[x1i n _ _ l n (by omega) hn];have key:∀(r p:List Cnt),l=p++r->(∀c∈p,nz c=true)->
   (a0b (f0n n (λz=>some (z.1,()))) (λ_=>some (-1,())) (p.length:Int) r ()=some (-1,())/\ ∀c∈l,nz c=true)\/
   ∃p x t,l=p++x::t/\(∀c∈p,nz c=true)/\nz x=false/\a0b (f0n n (λz=>some (z.1,()))) (λ_=>some (-1,())) ((l.length - r.length:Nat):Int) r ()=some ((p.length:Int),()):=by
  intro r
  induction r with
  |nil=>intro p hp h;left;exact⟨rfl,by rw[hp];simpa using h⟩
  |cons x r ih=>
   intro p hp h;have e1:((p.length:Int)+1)=((p++ [x]).length:Int):=by simp
   have e0:l.length - (x::r).length=p.length:=by rw[hp];simp
   cases hx:nz x with
   |false=>
    right;refine⟨p,x,r,hp,h,hx,?_⟩;rw[e0,a0b];unfold f0n q85z;have:(x.n==0)=true:=by unfold nz at hx;simpa using hx
    simp only[r2g,this,u2j]
   |true=>
    have hz:(x.n==0)=false:=by unfold nz at hx;simpa using hx
    have hst:∀q,a0b (f0n n (λz=>some (z.1,()))) (λ_=>some (-1,())) (p.length:Int) (x::r) ()=q↔a0b (f0n n (λz=>some (z.1,()))) (λ_=>some (-1,())) ((p++ [x]).length:Int) r ()=q:=by
     intro q;rw[a0b, <-e1];unfold f0n q85z;simp only[r2g,hz,u2k]
    rcases ih (p++ [x]) (by simp[hp]) (λc hc=>by
     rcases s2j.1 hc with hc|hc
     ·exact h c hc
     ·rw[s2e.1 hc];exact hx)with⟨h1,h2⟩| ⟨p',x',t',h1,h2,h3,h4⟩
    ·left;exact⟨(hst _).2 h1,h2⟩
    ·right
     refine⟨p',x',t',h1,h2,h3,?_⟩;have e2:l.length - r.length=(p++ [x]).length:=by rw[hp];simp;omega
     rw[e2]at h4;rw[e0];exact(hst _).2 h4
 rcases key l [] rfl (by simp)with⟨h1,h2⟩| ⟨p,x,t,h1,h2,h3,h4⟩
 ·exact .inl ⟨0,h1,rfl,h2⟩
 ·refine .inr ⟨p,x,t,h1,h2,h3,?_⟩
  rw[Nat.sub_self]at h4;exact h4
theorem c2n(n:Nat):∀(t w g:List Cnt) (fuel:Nat),g≠ []->w.length+g.length+t.length<=100000->t.length<fuel->
  a0a (λmI=>v0i n mI (λ(v9,iM,_)=>
   ck (decide (0<=(v9:Int)/\(v9:Int)<=((iM).length:Int))) (
   ck (Nat.ble ((v9:Int).toNat+((iM).length - (v9:Int).toNat)) (iM).length) (
   (cut? (clrL iM ((v9:Int).toNat) ((iM).length - (v9:Int).toNat) (Cnt.mk ([]:List Val) 0)) v9).bind λoP=>some (oP,())))) (λ(_)=>none)) fuel ((w.length:Int),((w.length+g.length:Nat):Int),w++g++t,())=some (w++t.filter nz,()):=by
 intro t
 induction t with
 |nil=>
  intro w g fuel hg hl hf;obtain⟨m,rfl⟩:∃m,fuel=m+1:=⟨fuel - 1,by simp at hf;omega⟩;have e:decide (((w.length+g.length:Nat):Int)<((w++g++ []).length:Int))=false:=by simp
  simp only[a0a,v0i,e,u2k,s2a,List.filter_nil];have e1:decide (0<=(w.length:Int)/\(w.length:Int)<=((w++g).length:Int))=true:=by simp;omega
  have e2:Nat.ble ((w.length:Int).toNat+((w++g).length - (w.length:Int).toNat)) (w++g).length=true:=by simp
  rw[b0v e1,b0v e2];unfold cut?;rw[if_pos (by unfold clrL;simp;omega)];unfold clrL;simp
 |cons x t ih=>
  intro w g fuel hg hl hf;obtain⟨m,rfl⟩:∃m,fuel=m+1:=⟨fuel - 1,by simp at hf;omega⟩;have bT:w.length+g.length+(t.length+1)<=100000:=by simpa using hl
  have e:decide (((w.length+g.length:Nat):Int)<((w++g++x::t).length:Int))=true:=by simp;omega
  have i1:w.length+g.length=(w++g).length:=by simp
  have d1:w++g++x::t=(w++g)++x::t:=rfl;have w1:=t0h (a:=w.length+g.length) (by omega);have w2:=t0h (a:=w.length) (by omega);cases hx:nz x with
  |false=>
   have hz:(x.n==0)=true:=by unfold nz at hx;simpa using hx
   simp only[a0a,v0i,e,u2j,d0y d1 i1,tnat,d0r d1 i1,r2g,q85z,hz,s2l,u2k,w1];have h:=ih w (g++ [x]) m (by simp) (by simp;omega) (by simp at hf;omega);have e1:w.length+(g++ [x]).length=w.length+g.length+1:=by simp;omega
   have e2:w++(g++ [x])++t=w++g++x::t:=by simp
   rw[e1,e2]at h;rw[List.filter_cons,hx];exact h
  |true=>
   have hz:(x.n==0)=false:=by unfold nz at hx;simpa using hx
   obtain⟨y,g',rfl⟩:∃y g',g=y::g' :=by cases g with|nil=>exact absurd rfl hg|cons y g' =>exact⟨y,g',rfl⟩
   have d0:w++y::g' ++x::t=w++y::(g' ++x::t):=by simp
   have s0:=g0k x d0 rfl;simp only[a0a,v0i,e,u2j,d0y d1 i1,tnat,d0r d1 i1,r2g,q85z,hz,t2m,d0y d0 rfl,d0r d0 rfl,Cnt.eta,s0,w1,w2];have h:=ih (w++ [x]) (g' ++ [x]) m (by simp) (by simp at bT⊢;omega) (by simp at hf;omega);have e0:(w++ [x]).length=w.length+1:=by simp
   have e1:(w++ [x]).length+(g' ++ [x]).length=w.length+(y::g').length+1:=by simp;omega
   have e2:w++ [x]++(g' ++ [x])++t=w++x::(g' ++x::t):=by simp
   rw[e1,e2,e0]at h;rw[List.filter_cons,hx];refine h.trans ?_;simp
theorem o2u(l:List Cnt)(n:Nat)(hn:l.length<n)(hl:l.length<=100000):q8z n (l,())=some (l.filter nz,()):=by
 unfold q8z;dsimp only;rcases a2a n hn hl with⟨i,h1,h2,h3⟩| ⟨p,x,t,h1,h2,h3,h4⟩
 ·rw[h1,r2g]
  dsimp only;rw[show((-1:Int)== -1)=true from rfl,u2j,List.filter_eq_self.2 h3]
 ·rw[h4,r2g]
  dsimp only;have e:((p.length:Int)== -1)=false:=by rw[beq_eq_false_iff_ne];omega
  rw[e,u2k,t0h (by rw[h1]at hl;simp at hl;omega)];have:=c2n n t p [x] n (by simp) (by rw[h1]at hl;simp at hl⊢;omega) (by rw[h1]at hn;simp at hn;omega);have e2:p++ [x]++t=l:=by rw[h1];simp
  rw[e2]at this;refine this.trans ?_;rw[h1,List.filter_append,List.filter_cons,h3,List.filter_eq_self.2 h2];rfl
def rc(x y:Cnt):Int:=ordL x.r y.r
def DR(K:Nat)(x:Cnt):Prop:=x.r.length<=900/\(∀v∈x.r,vOk v)/\lSz x.r+6<=K
theorem cmpR(K:Nat):Cmp (λn=>q84z n) rc (DR K) K where
 ok n hn x y hx hy:=by
  show q84z n (x,y,())=_;unfold q84z;dsimp only;rw[n0l x.r y.r n (by unfold maxLen;have:=hx.1;omega) hx.2.1 (by have:=hx.2.2;omega)];rfl
 asy x y _ _ h h2:=by
  unfold rc at h h2;rw[q0f x.r y.r]at h2;omega
 tr x y z _ _ _ h1 h2 h3:=by
  unfold rc at*;rw[q0f x.r y.r]at h1;rcases Int.lt_or_eq_of_le (show ordL x.r y.r<=0 by omega)with h|h
  ·exact h2 (k0d h3 h)
  ·rw[(i0n _ _).1 h]at h3
   exact h2 h3
theorem f2y(n:Nat):q5z n=f0b (λn=>q84z n) n:=by kernel_rfl
theorem x0m{M:Int}(hM:0<=M)(r:List Val):∀{l:List Cnt},(∀c∈l, -M<=c.n/\c.n<=M)-> -((l.length:Int)*M)<=cf l r/\cf l r<=(l.length:Int)*M
 |[],_=>by simp[cf]
 |c::l,h=>by
  have h1:=h c (by simp);have h2:=x0m hM r (l:=l) λd hd=>h d (by simp[hd]);have e:((c::l).length:Int)*M=(l.length:Int)*M+M:=by rw[r2w];push_cast;rw[Int.add_mul,Int.one_mul]
  rw[e,cf];generalize (l.length:Int)*M=q at*;cases ordL c.r r==0<;>simp only[u2j,u2k]<;>omega
theorem c1j{o:List Cnt}(h:e0s o){c:Cnt}(hc:c∈o):cf o c.r=c.n:=by
 induction o with
 |nil=>cases hc
 |cons x o ih=>
  obtain⟨h1,h2⟩:=t2l.1 h;rcases r2s.1 hc with rfl|hc
  ·exact c0y c h1
  ·have:(ordL x.r c.r==0)=false:=by rw[beq_eq_false_iff_ne];have:=h1 c hc;omega
   rw[cf,this,u2k,ih h2 hc];omega
theorem l1f(l:List Val)(n:Nat)(hn:1000<=n)(dM:l.length<=900)(hc:chks l 1=0):q91z n (l,())=some (l,()):=by
 unfold q91z;dsimp only;rw[s1h n _ _ l n [] (by omega) (by omega)];have key:∀(r p:List Val) (i:Int),(∀x∈r,chk x 1=0)->p.length+r.length<=900->a0b (q0x n (λ_=>none)) (λs=>some (s.1,())) i r (p,())=some (p++r,()):=by
  intro r
  induction r with
  |nil=>intro p i _ _;simp[a0b]
  |cons x r ih=>
   intro p i hx hl;rw[a0b];unfold q0x;dsimp only;rw[Val.eta,s0k x 1 n (by omega) (by omega) (by omega) (hx x (by simp)),r2g];dsimp only;rw[Val.eta,b0v (e0c (by simp at hl⊢;omega) (by omega))];refine(ih (p++ [x]) (i+1) (λy hy=>hx y (by simp[hy])) (by simp at hl⊢;omega)).trans ?_;simp
 exact key l [] 0 (s1m hc) (by simpa using dM)
theorem r1r(n K:Nat)(M:Int)(hM:0<=M)(hn:K<=n)(hn2:1000<=n)(kr:Unit->Option (List Cnt×Unit))(k:List Cnt×Unit->Option (List Cnt×Unit)):∀(r p o:List Cnt) (i:Int),a0t rc (p++r)->
  (∀c∈p++r,DR K c/\chks c.r 1=0/\ -M<=c.n/\c.n<=M)->((p.length+r.length:Nat):Int)*M<=9000000000000000000->p.length+r.length<=100000->
  e0s o->(∀w,cf o w=cf p w)->(∀c∈o,∃d∈p,d.r=c.r)->o.length<=p.length->(∀p' d,p=p' ++ [d]-> ∃o' y,o=o' ++ [y]/\y.r=d.r)->
  ∃o',e0s o' /\(∀w,cf o' w=cf (p++r) w)/\(∀c∈o',∃d∈p++r,d.r=c.r)/\o'.length<=p.length+r.length/\a0b (h0e n kr) k i r (o,())=k (o',()):=by
 intro r
 induction r with
 |nil=>
  intro p o i hs hD hMl hl h1 h2 h3 h4 h5;exact⟨o,h1,by simpa using h2,by simpa using h3,by simpa using h4,rfl⟩
 |cons x r ih=>
  intro p o i hs hD hMl hl h1 h2 h3 h4 h5;have hDx:=hD x (by simp);have hp:p++x::r=(p++ [x])++r:=by simp
  have bT:p.length+(r.length+1)<=100000:=by simpa using hl
  rw[a0b];have gW:=l1f x.r n hn2 hDx.1.1 hDx.2.1;have fin:∀o2:List Cnt,e0s o2->(∀w,cf o2 w=cf (p++ [x]) w)->(∀c∈o2,∃d∈p++ [x],d.r=c.r)->o2.length<=p.length+1->(∃o' y,o2=o' ++ [y]/\y.r=x.r)->
    ∃o',e0s o' /\(∀w,cf o' w=cf (p++x::r) w)/\(∀c∈o',∃d∈p++x::r,d.r=c.r)/\o'.length<=p.length+(x::r).length/\a0b (h0e n kr) k (i+1) r (o2,())=k (o',()):=by
   intro o2 a1 a2 a3 a4 a5;obtain⟨o',b1,b2,b3,b4,b5⟩:=ih (p++ [x]) o2 (i+1) (hp▸hs) (λc hc=>hD c (hp▸hc)) (by simp at hMl⊢;rw[Int.add_assoc,Int.add_comm 1];exact hMl) (by simp;omega) a1 a2 a3 (by simpa using a4) (λp' d hd=>by
    obtain⟨o',y,e1,e2⟩:=a5;have:x=d:=by have:=congrArg List.getLast? hd;simpa using this
    exact⟨o',y,e1,by rw[e2,this]⟩)
   exact⟨o',b1,by rw[hp];exact b2,by rw[hp];exact b3,by simp at b4⊢;omega,b5⟩
  generalize hR:a0b (h0e n kr) k (i+1) r=R;unfold h0e;dsimp only;rcases List.eq_nil_or_concat o with rfl|⟨o',y,ho⟩
  ·have e:decide (wI ((([]:List Cnt).length:Int) - 1) >=0)=false:=rfl
   rw[e,u2k,gW,r2g];dsimp only;rw[b0v (w0q (by simp) (by omega))];have pT:p=[]:=by
    rcases List.eq_nil_or_concat p with h|⟨p',d,h⟩
    ·exact h
    ·rw[List.concat_eq_append]at h
     obtain⟨o',y,e1,_⟩:=h5 p' d h;simp at e1
   subst pT;subst hR;exact fin [x] (by simp[e0s]) (λw=>by simp) (by simp) (by simp) ⟨[],x,rfl,rfl⟩
  ·rw[List.concat_eq_append]at ho
   subst ho;have gA:o'.length+1<=p.length:=by simpa using h4
   have ew:wI (((o' ++ [y]).length:Int) - 1)=(o'.length:Int):=by rw[show((o' ++ [y]).length:Int)=((o'.length+1:Nat):Int)by simp];exact l1y rfl (by omega)
   have e:decide ((o'.length:Int) >=0)=true:=by rw[decide_eq_true_iff];omega
   have d0:o' ++ [y]=o' ++y:: []:=rfl
   -- the last of what was before
   obtain⟨p',d,lq⟩:∃p' d,p=p' ++ [d]:=by
    rcases List.eq_nil_or_concat p with h|⟨p',d,h⟩
    ·subst h;simp at gA
    ·exact⟨p',d,by rw[h];simp⟩
   obtain⟨o'',y',mu,hy2⟩:=h5 p' d lq;have pW:y=y' :=by have:=congrArg List.getLast? mu;simpa using this
   have kZ:y.r=d.r:=by rw[pW];exact hy2
   have hDd:=hD d (by rw[lq];simp);have hle:¬ordL x.r y.r<0:=by
    rw[kZ];have:=(List.pairwise_append.1 hs).2.2 d (by rw[lq];simp) x (by simp);exact this
   rw[ew,e,u2j,d0y d0 rfl,tnat,d0r d0 rfl,r2g,r2g,n0l y.r x.r n (by rw[kZ];unfold maxLen;have:=hDd.1.1;omega) (by rw[kZ];exact hDd.1.2.1) (by rw[kZ];have:=hDd.1.2.2;omega),r2g];dsimp only;cases hb:ordL y.r x.r==0 with
   |true=>
    have hyx:y.r=x.r:=(d1q _ _).1 hb;rw[u2j];simp only[r2g];rw[g0k _ d0 rfl];have p9:y.n=cf p y.r:=by rw [<-h2,c1j h1 (by simp)]
    have dV:=x0m (M:=M) hM y.r (l:=p) λc hc=>(hD c (by simp[hc])).2.2;have hMl2:(p.length:Int)*M+M<=9000000000000000000:=by
     have:(((p.length+(x::r).length:Nat):Int))*M=(p.length:Int)*M+M+(r.length:Int)*M:=by
      rw[r2w];push_cast;rw[Int.add_mul,Int.add_mul,Int.one_mul];omega
     have h0:0<=(r.length:Int)*M:=Int.mul_nonneg (by omega) hM;omega
    have jx:=hDx.2.2;have ewn:wI (y.n+x.n)=y.n+x.n:=by
     rw[p9];generalize (p.length:Int)*M=q at*;exact a0f (by omega) (by omega)
    rw[ewn];obtain⟨s1,s2,s3⟩:=List.pairwise_append.1 h1;subst hR;refine fin (o' ++ [⟨y.r,y.n+x.n⟩]) ?_ ?_ ?_ (by simp;omega) ⟨o',⟨y.r,y.n+x.n⟩,rfl,hyx⟩
    ·exact List.pairwise_append.2 ⟨s1,by simp,λa ha b hb=>by rw[s2e.1 hb];exact s3 a ha y (by simp)⟩
    ·intro w
     rw[h0d,h0d, <-h2 w,h0d];simp only[cf];rw[hyx];cases ordL x.r w==0<;>simp only[u2j,u2k]<;>omega
    ·intro c hc
     rcases s2j.1 hc with hc|hc
     ·obtain⟨d,hd,e⟩:=h3 c (by simp[hc])
      exact⟨d,by simp[hd],e⟩
     ·exact⟨x,by simp,by rw[s2e.1 hc];exact hyx.symm⟩
   |false=>
    rw[u2k,gW,r2g];dsimp only;rw[b0v (w0q (by simp;omega) (by omega)),Cnt.eta];have aJ:ordL y.r x.r<0:=by
     have h0:ordL y.r x.r≠0:=by simpa using hb
     rw[q0f y.r x.r]at hle;omega
    obtain⟨s1,s2,s3⟩:=List.pairwise_append.1 h1;subst hR;refine fin (o' ++ [y]++ [x]) ?_ ?_ ?_ (by simp;omega) ⟨o' ++ [y],x,rfl,rfl⟩
    ·refine List.pairwise_append.2 ⟨h1,by simp,λa ha b hb=>?_⟩
     rw[s2e.1 hb];rcases s2j.1 ha with ha|ha
     ·exact k0d (s3 a ha y (by simp)) aJ
     ·rw[s2e.1 ha];exact aJ
    ·intro w
     rw[h0d w (o' ++ [y]) [x],h2 w,h0d w p [x]]
    ·intro c hc
     rcases s2j.1 hc with hc|hc
     ·obtain⟨d,hd,e⟩:=h3 c hc
      exact⟨d,by simp[hd],e⟩
     ·exact⟨x,by simp,by rw[s2e.1 hc]⟩
theorem r0m(w:List Val):∀l:List Cnt,cf (l.filter nz) w=cf l w
 |[]=>rfl
 |c::l=>by
  rw[List.filter_cons];cases h:nz c with
  |true=>simp only[if_true,cf,r0m w l]
  |false=>
   have:c.n=0:=by unfold nz at h;simpa using h
   simp only[cf,this];cases ordL c.r w==0<;>simp[r0m w l]
theorem z1c(l:List Cnt)(h:l.length<=100000):q19z (l,())=some (l,()):=by
 unfold q19z;dsimp only;rw[s2m];cases l with
 |nil=>unfold nilq;dsimp only;rw[b0v (w0q (by simp) (by omega))];exact a0p _
 |cons x l=>unfold nilq;dsimp only;rw[b0v (w0q (by omega) (by omega))]
theorem r1x(l:List Cnt)(n K:Nat)(M:Int)(hM:0<=M)(hD:∀c∈l,DR K c/\chks c.r 1=0/\ -M<=c.n/\c.n<=M)(hMl:(l.length:Int)*M<=9000000000000000000)(hl:l.length<=100000)(hn:l.length+K+1100<=n):
  ∃o,a1o n (l,())=some (o,())/\CB o/\(∀w,cf o w=cf l w)/\(∀c∈o,∃d∈l,d.r=c.r)/\o.length<=l.length:=by
 obtain⟨s,s1,s2,s3⟩:=i2f (cmpR K) n l (λz hz=>(hD z hz).1) (by omega) (by omega);unfold a1o;dsimp only;rw[z1c l hl,r2g];dsimp only;rw[f2y,s3,r2g];dsimp only;have ls:=s1.length_eq;rw[m1b n _ _ s n [] (by omega) (by omega)];obtain⟨o,o1,o2,o3,o4,o5⟩:=r1r n K M hM (by omega) (by omega) (λ_=>none) (λz=>(q8z n (z.1,())).bind λz=>some (z.1,())) s [] [] 0 (by simpa using s2) (λc hc=>hD c (s1.mem_iff.1 (by simpa using hc))) (by simpa[ls]using hMl) (by simp;omega) (by simp[e0s]) (λw=>rfl) (by simp) (by simp) (λp' d h=>by simp at h);simp only[s2m,List.length_nil,s2u]at o2 o3 o4;refine⟨o.filter nz,?_,⟨o1.filter _,λc hc=>?_⟩,λw=>?_,λc hc=>?_,?_⟩
 ·refine o5.trans ?_
  dsimp only;rw[o2u o n (by omega) (by omega)];rfl
 ·have:=(t2s.1 hc).2
  unfold nz at this;simpa using this
 ·rw[r0m,o2,j2x w s1]
 ·obtain⟨d,hd,e⟩:=o3 c (t2s.1 hc).1
  exact⟨d,s1.mem_iff.1 hd,e⟩
 ·exact t2p (List.length_filter_le _ _) (by omega)
def RB(K:Nat)(l:List Cnt):Prop:=∀c∈l,lSz c.r+6<=K
theorem d2x{K:Nat}:∀{l:List Cnt},RB K l->bSz l<=l.length*K
 |[],_=>by simp[bSz]
 |c::l,h=>by
  have h1:=h c (by simp);have h2:=d2x (l:=l) λd hd=>h d (by simp[hd]);rw[bSz,r2w,t2w,Nat.one_mul];omega
def WB(l:List Cnt):Prop:=∀c∈l,cOk c
theorem w1e(l:List Cnt)(n K:Nat)(hw:WB l)(hr:RB K l)(hl:l.length<=20000)(hn:20000*K+30000<=n):g0v n (l,())=some (bgE l,()):=by
 refine z0z l n hw ?_;have:=d2x hr;have h2:l.length*K<=20000*K:=t2b K hl;omega
theorem n1w{S ρ:Type}(step:(S->Option ρ)->S->Option ρ){fuel:Nat}(h:3<=fuel)(s:S):a0a step fuel s=step (λs1=>step (λs2=>step (a0a step (fuel - 3)) s2) s1) s:=by
 obtain⟨m,rfl⟩:∃m,fuel=m+3:=⟨fuel - 3,by omega⟩;rfl
theorem ix2a{α:Type}(a b:α):ix [a,b] 0=some a:=rfl
theorem ix2b{α:Type}(a b:α):ix [a,b] 1=some b:=rfl
theorem w01:wI (0+1)=1:=rfl
theorem w12:wI (1+1)=2:=rfl
def dst(a:List Cnt):List Cnt:=(a.filter λc=>decide (c.n>0)).map λc=>⟨c.r,1⟩
theorem j1q{a:List Cnt}{c:Cnt}(h:c∈dst a):∃d∈a,d.r=c.r/\c.n=1:=by
 obtain⟨d,hd,rfl⟩:=s2c.1 h;exact⟨d,(t2s.1 hd).1,rfl,rfl⟩
theorem a2t(n:Nat)(a:List Cnt)(hn:1000<=n){ρ:Type}(kr:Unit->Option ρ)(K:List Cnt×(List Cnt×Unit)×Unit->Option ρ):∀(r acc:List Cnt) (i:Int),(∀c∈r,c.r.length<=900/\chks c.r 1=0)->acc.length+r.length<=100000->
  a0b (m0y n kr) K i r (acc,(a,()),())=K (acc++dst r,(a,()),()):=by
 intro r
 induction r with
 |nil=>intro acc i _ _;simp[a0b,dst]
 |cons x r ih=>
  intro acc i hx hl;rw[a0b];generalize hR:a0b (m0y n kr) K (i+1) r=R;unfold m0y;dsimp only;cases h:decide (x.n>0)with
  |true=>
   rw[u2j,l1f x.r n hn (hx x (by simp)).1 (hx x (by simp)).2,r2g];dsimp only;rw[b0v (w0q (by simp at hl⊢;omega) (by omega))];subst hR;refine(ih (acc++ [⟨x.r,1⟩]) (i+1) (λc hc=>hx c (by simp[hc])) (by simp at hl⊢;omega)).trans ?_;unfold dst;rw[List.filter_cons,h];simp
  |false=>
   rw[u2k];subst hR;refine(ih acc (i+1) (λc hc=>hx c (by simp[hc])) (by simp at hl⊢;omega)).trans ?_;unfold dst;rw[List.filter_cons,h];simp
theorem j2w:bgE []=0:=rfl
theorem d1w(a:List Cnt)(n K:Nat)(wa:WB a)(ra:RB K a)(sa:bSz a+2100<=n)(hn:20000*K+30000<=n):
  (bgE a≠0->q83z n (a,())=some ([],bgE a,()))/\
  (bgE a=0->WB (dst a)/\RB K (dst a)/\(dst a).length<=2000/\q83z n (a,())=bif bgE (dst a) !=0 then some ([],bgE (dst a),())else some (dst a,0,())):=by
 have ca:=z0z a n wa sa;have cb:=w1e [] n K (by intro c hc;cases hc) (by intro c hc;cases hc) (by simp) hn;unfold q83z q28z;dsimp only;rw[n1w _ (by omega)];unfold e1q;dsimp only;rw[show decide ((0:Int)<2)=true from rfl,u2j,ix2a,r2g,ca,r2g]
 dsimp only;refine⟨λha=>?_,λha=>?_⟩
 ·rw[bne_iff_ne.2 ha]
  rfl
 ·rw[ha,show((0:Int) !=0)=false from rfl,u2k,w01,show decide ((1:Int)<2)=true from rfl,u2j,ix2b,r2g,cb,r2g]
  dsimp only;rw[j2w,show((0:Int) !=0)=false from rfl,u2k,w12,show decide ((2:Int)<2)=false from rfl,u2k]
  obtain⟨la2,ra2⟩:=r2e ha;have ld:(dst a).length<=a.length:=by unfold dst;rw[s2k];exact List.length_filter_le _ _
  have wd:WB (dst a):=λc hc=>by
   obtain⟨d,hd,e,e2⟩:=j1q hc;exact⟨by rw [<-e];exact(wa d hd).1,by rw[e2];rfl⟩
  have rd:RB K (dst a):=λc hc=>by
   obtain⟨d,hd,e,_⟩:=j1q hc;rw [<-e];exact ra d hd
  have e1:q70z n ((a,()),())=some (dst a,(a,()),()):=by
   unfold q70z;dsimp only;rw[p1z n _ _ a n [] _ (by omega) (by omega),a2t n a (by omega) _ _ a [] 0 (λc hc=>⟨by have:=(ra2 c hc).1;omega,(ra2 c hc).2⟩) (by simp;omega)];rfl
  refine⟨wd,rd,by omega,?_⟩;rw[e1,r2g];dsimp only;rw[w1e (dst a) n K wd rd (by omega) hn,r2g];dsimp only;cases bgE (dst a) !=0<;>rfl
def sz(n:Int):Int:=if(wI (0 - n)) >n then(wI (0 - n))else n
structure JOk(k:Nat)(n:Nat)(a:List Cnt):Prop where
 len:∀c∈a,k<=c.r.length/\c.r.length<=30
 vok:∀c∈a,∀v∈c.r,vOk v
 sz:∀c∈a,lSz c.r+6<=n
 bnd:∀c∈a,(-1099511627776<=c.n/\c.n<=1099511627776)/\c.n≠0
end Pure

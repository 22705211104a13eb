import Derived.Test.YtcloicgnanjbcaaGreatDoorPTL
import Derived.Test.YtcloicgnanjbcaaGreatDoorPMX
import Derived.Test.YtcloicgnanjbcaaGreatDoorPRX
noncomputable section
namespace Pure
open Esp Ev Go
set_option linter.unusedSimpArgs false
set_option linter.unusedVariables false
theorem f1w{vt:Ev.Ty}(k:ByteArray)(v:vt.den): ∀l:List (ByteArray×vt.den),(a0e .str vt l k v).map (fun p=>p.1)=bif a0s .str vt l k then l.map (fun p=>p.1)else l.map (fun p=>p.1)++ [k]
 | []=>rfl
 | p::r=>by
  rw [a0e,a0s];cases hk:b0g .str k p.1 with
  | true=>
   rw [b0e]at hk;rw [cond_true,cond_true,cond_true,k2l,k2l,(a0b _ _).1 hk]
  | false=>
   rw [cond_false,cond_false,k2l,k2l,f1w k v r];cases a0s .str vt r k<;>rfl
theorem z0x{vt:Ev.Ty}(k:ByteArray): ∀l:List (ByteArray×vt.den),a0s .str vt l k=true↔k∈l.map (fun p=>p.1)
 | []=>by simp [a0s]
 | p::r=>by
  rw [a0s,k2l,k2b, ←z0x k r,b0e];cases h:seq k p.1 with
  | true=>have:=(a0b _ _).1 h;simp [this]
  | false=>have:k≠p.1:=fun e=>by rw [e,a0r]at h;cases h
           simp [this]
def kU(l:List Y2):Prop:=(l.map fun p=>p.1).Nodup
theorem g2i{l:List Y2}(h:kU l)(k:ByteArray)(v:Int):kU (a0e .str .i64 l k v):=by
 unfold kU;rw [f1w (vt:= .i64)];cases hh:a0s .str .i64 l k with
 | true=>exact h
 | false=>
  rw [cond_false,List.nodup_append];refine⟨h,by simp,fun a ha b hb e=> ?_⟩;rw [l2r]at hb;subst e hb;rw [(z0x (vt:= .i64) a l).2 ha]at hh;cases hh
theorem r1m(k s:ByteArray): ∀l:List Y2,kU l→a0g .str .i64 0 (t0u .str .i64 l k) s=bif seq s k then 0 else a0g .str .i64 0 l s
 | [],_=>by show(0:Int)=bif seq s k then 0 else 0;cases seq s k<;>rfl
 | p::r,h=>by
  have h2:=List.nodup_cons.1 (show(p.1::r.map fun p=>p.1).Nodup from h)
  rw [t0u,a0g,b0e,b0e];cases hk:seq k p.1 with
  | true=>
   have e:=(a0b _ _).1 hk;rw [cond_true, ←e];cases hs:seq s k with
   | true=>
    rw [cond_true];refine s0m (vt:= .i64) 0 s r ?_;cases hh:a0s .str .i64 r s with
    | false=>rfl
    | true=>exact absurd ((z0x (vt:= .i64) s r).1 hh) (by rw [(a0b _ _).1 hs,e];exact h2.1)
   | false=>rw [cond_false];rfl
  | false=>
   rw [cond_false,a0g,b0e,r1m k s r h2.2];cases hs:seq s k with
   | true=>
    have:=(a0b _ _).1 hs;rw [this,hk];rfl
   | false=>rfl
def RBe(B:List Y2)(b:List Y6):Prop:=kU B∧a0s .str .bool b ⟨#[]⟩=false∧∀s,seq s ⟨#[]⟩=false→a0g .str .i64 0 B s=bif a0s .str .bool b s then(bif a0g .str .bool false b s then 2 else 1)else 0
theorem RBe.put{B:List Y2}{b:List Y6}(h:RBe B b)(k:ByteArray):RBe (a0e .str .i64 B k 1) (bif !(seq k ⟨#[]⟩)then a0e .str .bool b k false else b):=by
 refine⟨g2i h.1 k 1, ?_,fun s hs=> ?_⟩
 ·cases hk:seq k ⟨#[]⟩with
  | true=>exact h.2.1
  | false=>
   rw [k2w,cond_true,f0j (vt:= .bool),h.2.1];cases h2:seq ⟨#[]⟩ k with
   | false=>rfl
   | true=>rw [←(a0b _ _).1 h2,a0r]at hk;cases hk
 ·rw [a0i (vt:= .i64),h.2.2 s hs]
  cases hk:seq k ⟨#[]⟩with
  | true=>
   rw [k2e,cond_false];cases h2:seq s k with
   | false=>rfl
   | true=>rw [(a0b _ _).1 h2,hk]at hs;cases hs
  | false=>
   rw [k2w,cond_true,f0j (vt:= .bool),a0i (vt:= .bool)];cases seq s k<;>rfl
theorem RBe.del{B:List Y2}{b:List Y6}(h:RBe B b):RB (t0u .str .i64 B ⟨#[]⟩) b:=by
 intro s;rw [r1m _ _ _ h.1];cases hs:seq s ⟨#[]⟩with
 | true=>rw [cond_true,(a0b _ _).1 hs,h.2.1];rfl
 | false=>rw [cond_false];exact h.2.2 s hs
theorem g2p{ρ:Type}(n:Nat)(kr:Y9×Int×Unit→Option ρ)(K:Y4×Y9×Unit→Option ρ)(q:Query):
  ∀(l:List Ev.Dot) (i:Int) (B:List Y2) (b:List Y6),RBe B b→∃B',RBe B' (nmD l b)∧a0c (j0w n kr) K i l ((q,()),B,())=bif l.all dtB then K ((q,()),B',())else kr ([],6,())
 | [],i,B,b,h=>⟨B,h,rfl⟩
 | d::r,i,B,b,h=>by
  obtain⟨B',h',e⟩:=g2p n kr K q r (i+1) _ _ (h.put d.name);refine⟨B',h', ?_⟩;rw [a0c,List.all_cons];unfold j0w at e⊢;unfold dtB at e⊢;dsimp only;rw [k0e,d0y];simp only [j2r];cases seq d.name ⟨#[]⟩<;>cases h0i d.name<;>cases seq d.label ⟨#[]⟩<;>cases nmB d.label<;>simp only [k2e,k2w,cond_true,cond_false,l2a,k2m,l2e,l2z]<;>first | exact e | rfl
theorem d2q{ρ:Type}(n:Nat)(kr:Y9×Int×Unit→Option ρ)(K:Y4×Y9×Unit→Option ρ)(q:Query)(B:List Y2):
  ∀(l:List Ev.Arrow) (i:Int),a0c (k0f n kr) K i l ((q,()),B,())=bif l.all arB then K ((q,()),B,())else kr ([],6,())
 | [],i=>rfl
 | d::r,i=>by
  have e:=d2q n kr K q B r (i+1);rw [a0c,List.all_cons];unfold k0f at e⊢;unfold arB at e⊢;dsimp only;rw [k0e,d0y];simp only [j2r];cases seq d.name ⟨#[]⟩<;>cases h0i d.name<;>cases d.many<;>cases seq d.type ⟨#[]⟩<;>cases nmB d.type<;>simp only [k2e,k2w,cond_true,cond_false,l2a,k2m,l2q,l2f,l2e,l2z,m2m,Bool.and_false]<;>first | exact e | rfl
theorem g2m{ρ:Type}(n:Nat)(kr:Y9×Int×Unit→Option ρ)(K:Y4×Y9×Unit→Option ρ)(q:Query):
  ∀(l:List Ev.Arrow) (i:Int) (B:List Y2) (b:List Y6),RB B b→∃B',(∀b',nmA l b=some b' →RB B' b')∧a0c (i0z n kr) K i l ((q,()),B,())=match nmA l b with | none=>kr ([],7,()) | some _=>K ((q,()),B',())
 | [],i,B,b,h=>⟨B,fun b' e=>by cases e;exact h,rfl⟩
 | d::r,i,B,b,h=>by
  have ih:=g2m n kr K q r (i+1);unfold i0z at ih⊢;have hh:=h.has d.name;rw [a0c,nmA];dsimp only;cases hs:seq d.name ⟨#[]⟩with
  | true=>
   obtain⟨B',h',e⟩:=ih B b h;exact⟨B',h',e⟩
  | false=>
   rw [k2w,cond_true,cond_true,cond_false,bne,hh,Bool.not_not];cases a0s .str .bool b d.name with
   | true=>
    rw [cond_true,cond_true];exact⟨B,fun _ e=>(by cases e),rfl⟩
   | false=>
    rw [cond_false,cond_false];obtain⟨B',h',e⟩:=ih _ _ (h.put d.name true);exact⟨B',h',e⟩
theorem h2r{ρ:Type}(n:Nat)(hn:300≤n)(kr:Y9×Int×Unit→Option ρ)(K:Y4×Y9×Unit→Option ρ)(q:Query)(B:List Y2)(b:List Y6)(hB:RB B b):
  ∀(l:List Term) (i:Int),a0c (k0q n kr) K i l ((q,()),B,())=bif whF b l !=0 then kr ([],whF b l,())else K ((q,()),B,())
 | [],i=>rfl
 | t::r,i=>by
  have ih:=h2r n hn kr K q B b hB r (i+1);rw [a0c,whF];unfold k0q at ih⊢;dsimp only;rw [Term.eta2,s0a hB t 1 n (by omega) (by omega) (by omega),j2r];dsimp only;cases h:(tchk b t 1 !=0)with
  | true=>rw [cond_true,cond_true,h,cond_true]
  | false=>rw [cond_false,cond_false];exact ih
theorem w1p{ρ:Type}(n:Nat)(kr:Y9×Int×Unit→Option ρ)(K:Y30×Int×Int×Y4×(Ev.Item×Unit)×Y9×Unit→Option ρ)(a:List Ev.Item)(c d:Int)(q:Query)(x:Ev.Item)(B:List Y2):
  ∀(l:List Ev.Item) (i:Int),a0c (e0x n kr) K i l (a,c,d,(q,()),(x,()),B,())=bif l.any (fun y=>seq y.name x.name)then kr ([],7,())else K (a,c,d,(q,()),(x,()),B,())
 | [],i=>rfl
 | t::r,i=>by
  have ih:=w1p n kr K a c d q x B r (i+1);have step: ∀R:_→Option ρ,e0x n kr i t (a,c,d,(q,()),(x,()),B,()) R=bif seq t.name x.name then kr ([],7,())else R (a,c,d,(q,()),(x,()),B,()):=by
   intro R;unfold e0x;dsimp only;rw [Term.eta2]
  rw [a0c,List.any_cons,step];cases seq t.name x.name with
  | true=>rfl
  | false=>rw [cond_false,k2m];exact ih
theorem s1c(seen:List Y6)(p:List Ev.Item)(h: ∀s,a0g .str .bool false seen s=p.any (fun y=>seq y.name s))(x:Ev.Item): ∀s,a0g .str .bool false (a0e .str .bool seen x.name true) s=(p++ [x]).any (fun y=>seq y.name s):=by
 intro s;rw [a0i (vt:= .bool),h s,List.any_append];have e:seq x.name s=seq s x.name:=by
  cases h1:seq x.name s with
  | true=>rw [(a0b _ _).1 h1,a0r]
  | false=>
   cases h2:seq s x.name with
   | false=>rfl
   | true=>rw [(a0b _ _).1 h2,a0r]at h1;cases h1
 simp only [List.any_cons,List.any_nil,l2f,e];cases seq s x.name<;>simp
theorem d2l{ρ:Type}(n:Nat)(hn:400≤n)(kr:Y9×Int×Unit→Option ρ)(K:Y9×Unit→Option ρ)(q:Query)(hl:q.items.length≤100)(B:List Y2)(b:List Y6)(hB:RB B b):
  ∀(l p:List Ev.Item) (seen:List Y6),q.items=p++l→(∀s,a0g .str .bool false seen s=p.any (fun y=>seq y.name s))→ ∀fuel,l.length<fuel→
   a0a (fun rc=>l0t n rc K kr) fuel (q.items,(q.items.length:Int),(p.length:Int),(q,()),B,())=bif itF b l seen !=0 then kr ([],itF b l seen,())else K (B,())
 | [],p,seen,hp,hs,fuel,hf=>by
  obtain⟨m,rfl⟩: ∃m,fuel=m+1:=⟨fuel - 1,by omega⟩;rw [a0a];unfold l0t;dsimp only;rw [decide_eq_false (by rw [hp];simp),cond_false];rfl
 | x::r,p,seen,hp,hs,fuel,hf=>by
  obtain⟨m,rfl⟩: ∃m,fuel=m+1:=⟨fuel - 1,by omega⟩;have hx:q.items[p.length]? =some x:=by rw [hp];simp
  have hlt:p.length<q.items.length:=(k2a.1 hx).1;have IH:=d2l n hn kr K q hl B b hB r (p++ [x]) (a0e .str .bool seen x.name true) (by rw [hp];simp) (s1c seen p hs x) m (by simp at hf;omega);rw [j2y,k2u,Int.natCast_add]at IH;have hw:IntKind.wrap .i64 ((p.length:Int)+1)=(p.length:Int)+1:=a0h (by omega) (by omega);rw [a0a,itF];generalize a0a (fun rc=>l0t n rc K kr) m=I at IH⊢;unfold l0t;dsimp only;rw [decide_eq_true (by omega),cond_true,a0k hx,j2r,k0e,j2r];dsimp only;cases h0i x.name with
  | false=>rfl
  | true=>
   rw [k2e,cond_false,cond_false,i0m _ x.agg n (by simp) (by omega),j2r];dsimp only;unfold aggs;cases hasL [(⟨#[]⟩:ByteArray),(⟨#[99,111,117,110,116]⟩:ByteArray),(⟨#[115,117,109]⟩:ByteArray),(⟨#[109,105,110]⟩:ByteArray),(⟨#[109,97,120]⟩:ByteArray)] x.agg with
   | false=>rfl
   | true=>
    have hls:lsl q.items 0 (p.length:Int)=some p:=by
     unfold lsl;rw [if_pos (by omega)];rw [hp];simp
    rw [k2e,cond_false,cond_false,hls,j2r,Term.eta2,i1a n _ _ p n _ _ _ _ _ _ (by omega) (by omega)];refine Eq.trans (w1p n _ _ _ _ _ q x B p 0) ?_;rw [hs x.name];cases p.any (fun y=>seq y.name x.name)with
    | true=>rfl
    | false=>
     rw [cond_false,cond_false];dsimp only;simp only [Term.eta2];rw [s0a hB x.t 1 n (by omega) (by omega) (by omega),j2r];dsimp only;cases h:(tchk b x.t 1 !=0)with
     | true=>rw [cond_true,cond_true,h,cond_true]
     | false=>rw [cond_false,cond_false,hw];exact IH
theorem h2c(q:Query)(n:Nat)(hn:400≤n)(hql:q.arrows.length≤9223372036854775807): ∃B,q17z n (q,())=some (B,chkQ q,()):=by
 unfold q17z chkQ;dsimp only;cases hb:((((decide (((q.dots.length:Int):Int)<1)) || (decide (((q.dots.length:Int):Int) >5))) || (decide (((q.items.length:Int):Int)<1))) || (decide (((q.items.length:Int):Int) >5))) || (decide (((q.wher.length:Int):Int) >1))with
 | true=>exact⟨_,rfl⟩
 | false=>
  simp only [k2c,decide_eq_false_iff_not]at hb;rw [cond_false,cond_false];cases ha:((q.arrows.length:Int) !=(q.dots.length:Int) - 1)with
  | true=>
   have hne: ¬((q.arrows.length:Int)=(q.dots.length:Int) - 1):=by simpa [bne]using ha
   have e:((q.dots.length:Int) !=IntKind.wrap .i64 ((q.arrows.length:Int)+1))=true:=by
    rw [bne_iff_ne];by_cases h1:(q.arrows.length:Int)+1≤9223372036854775807
    ·rw [a0h (by omega) h1]
     omega
    ·rw [show(q.arrows.length:Int)+1=9223372036854775808 by omega,show IntKind.wrap .i64 9223372036854775808= -9223372036854775808 by rfl]
     omega
   rw [e];exact⟨_,rfl⟩
  | false=>
   have ha:(q.arrows.length:Int)=(q.dots.length:Int) - 1:=by simpa [bne]using ha
   have e:((q.dots.length:Int) !=IntKind.wrap .i64 ((q.arrows.length:Int)+1))=false:=by
    rw [a0h (by omega) (by omega),bne_eq_false_iff_eq];omega
   rw [e,cond_false,cond_false,n1g n _ _ q.dots n _ _ (by omega) (by omega)];obtain⟨B0,h0,e0⟩:=g2p n _ _ q q.dots 0 [] [] ⟨List.nodup_nil,rfl,fun _ _=>rfl⟩;refine Exists.imp (fun B h=>Eq.trans e0 h) ?_;cases q.dots.all dtB with
   | false=>exact⟨_,rfl⟩
   | true=>
    rw [cond_true,k2e,cond_false];dsimp only;rw [k1m n _ _ q.arrows n _ _ (by omega) (by omega)];refine Exists.imp (fun B h=>Eq.trans (d2q n _ _ q B0 q.arrows 0) h) ?_;cases q.arrows.all arB with
    | false=>exact⟨_,rfl⟩
    | true=>
     rw [cond_true,k2e,cond_false];dsimp only;rw [j1e n _ _ q.arrows n _ _ (by omega) (by omega)];obtain⟨B1,h1,e1⟩:=g2m n _ _ q q.arrows 0 _ _ h0.del;refine Exists.imp (fun B h=>Eq.trans e1 h) ?_;cases hA:nmA q.arrows (nmD q.dots [])with
     | none=>exact⟨_,rfl⟩
     | some b=>
      have hB:=h1 b hA;dsimp only;rw [r1j n _ _ q.wher n _ _ (by omega) (by omega)];refine Exists.imp (fun B h=>Eq.trans (h2r n (by omega) _ _ q B1 b hB q.wher 0) h) ?_;cases hw:(whF b q.wher !=0)with
      | true=>exact⟨_,rfl⟩
      | false=>
       rw [cond_false,cond_false];dsimp only;refine Exists.imp (fun B h=>Eq.trans (d2l n hn _ _ q (by omega) B1 b hB q.items [] [] rfl (fun _=>rfl) n (by omega)) h) ?_;cases hi:(itF b q.items [] !=0)with
       | true=>exact⟨_,rfl⟩
       | false=>
        have:itF b q.items []=0:=by simpa [bne]using hi
        rw [this];exact⟨_,rfl⟩
end Pure
namespace Pure
open Esp Ev Go
set_option linter.unusedSimpArgs false
set_option linter.unusedVariables false
theorem u1r{b:List Y6}{v:Val}{s:ByteArray}{a:List Term}{d:Int}(h:tchk b (.mk 3 v s a) d=0):a0s .str .bool b (hdT a).name=true:=by
 rw [tchk]at h;cases hd:decide (d>6)with
 | true=>rw [hd]at h;cases h
 | false=>
 rw [hd,cond_false,show((3:Int)==1)=false from rfl,show((3:Int)==2)=false from rfl,show((3:Int)==3)=true from rfl,cond_false,cond_false,cond_true]at h
 cases hz:(!zrB v) || ((a.length:Int) !=1)with
 | true=>rw [hz]at h;cases h
 | false=>
  rw [hz,cond_false]at h;rw [k2c]at hz;obtain⟨e1,e2⟩:=p1s hz.2;cases hk:((hdT a).kind !=2)with
  | true=>rw [hk]at h;cases h
  | false=>
   rw [hk,cond_false]at h;cases hn: !nmB s with
   | true=>rw [hn]at h;cases h
   | false=>
    rw [hn,cond_false]at h;have h0:=o1k h (hdT a) (by rw [e2];simp [hdT]);have hr:=r1z h0;generalize hdT a=t at hr hk;cases hr with
    | const=>simp [Term.kind,bne]at hk
    | var v s a d h6 hm=>exact hm
    | field=>simp [Term.kind,bne]at hk
    | call=>simp [Term.kind,bne]at hk
theorem i1f(g:Graph){b:List Y6}{m1 m2:List Y2}(h: ∀s,a0s .str .bool b s=true→a0g .str .i64 0 m1 s=a0g .str .i64 0 m2 s)(t:Term): ∀d,tchk b t d=0→tval g m1 t=tval g m2 t:=by
 induction t using i0d with
 | _ k v s a ih=>
  intro d hc;have hr:=r1z hc;cases hr with
  | const v s a d h6 hv=>rw [tval,tval];rfl
  | var v s a d h6 hm=>
   rw [tval,tval,h s hm];rfl
  | field v s a d h6 e1 e2=>
   have:=h _ (u1r hc);rw [tval,tval,this];rfl
  | call v s a d h6 har h30 hs hlst hz=>
   have e:d0d g m1 a=d0d g m2 a:=by
    rw [d0e,d0e];exact List.map_congr_left fun x hx=>ih x hx (d+1) (hs x hx)
   rw [tval,tval,e];rfl
def bD:List Ev.Dot→List Int→List Y2→List Y2
 | d::r,y::s,m=>bD r s (a0e .str .i64 m d.name y)
 | _,_,m=>m
theorem e1x{ρ:Type}(n:Nat)(kr:Unit→Option ρ)(K:Y0×Y4×Y9×Unit→Option ρ)(q:Query)(f:List Int):
  ∀(l:List Ev.Dot) (t s:List Int) (m:List Y2),f=t++s→l.length≤s.length→a0c (p0p n kr) K (t.length:Int) l (f,(q,()),m,())=K (f,(q,()),bD l s m,())
 | [],t,s,m,hf,hl=>by
  rw [a0c];cases s<;>rfl
 | d::r,t,s,m,hf,hl=>by
  obtain⟨y,s,rfl⟩: ∃y s',s=y::s' :=by
   cases s with
   | nil=>simp at hl
   | cons y s' =>exact⟨y,s',rfl⟩
  have hy:f[t.length]? =some y:=by rw [hf];simp
  have ih:=e1x n kr K q f r (t++ [y]) s (a0e .str .i64 m d.name y) (by rw [hf];simp) (by simpa using hl);rw [j2y,k2u,Int.natCast_add]at ih;rw [a0c,bD];unfold p0p at ih⊢;dsimp only;rw [a0k hy,j2r];exact ih
theorem g1g{ρ:Type}(n:Nat)(kr:Unit→Option ρ)(K:Y9×Unit→Option ρ)(q:Query)(hN:q.dots.length≤100)(f:List Int)(h0:f.length≤1000):
  ∀(l:List Ev.Arrow) (t s:List Int) (m:List Y2),f.drop q.dots.length=t++s→l.length≤s.length→a0c (l0c n kr) (fun(v15,o19,o20,_)=>K (o20,())) (t.length:Int) l (f,(q,()),m,())=K (envA l s m,())
 | [],t,s,m,hf,hl=>by
  rw [a0c];cases s<;>rfl
 | d::r,t,s,m,hf,hl=>by
  obtain⟨y,s,rfl⟩: ∃y s',s=y::s' :=by
   cases s with
   | nil=>simp at hl
   | cons y s' =>exact⟨y,s',rfl⟩
  have hy:f[q.dots.length+t.length]? =some y:=by rw [←List.getElem?_drop,hf];simp
  have hb:=(k2a.1 hy).1;have ih:=fun m=>g1g n kr K q hN f h0 r (t++ [y]) s m (by rw [hf];simp) (by simpa using hl);rw [j2y,k2u,Int.natCast_add]at ih;rw [a0c,envA];unfold l0c at ih⊢;dsimp only;rw [a0h (by omega) (by omega), ←Int.natCast_add,a0k hy];cases hs:seq d.name ⟨#[]⟩with
  | true=>rw [k2e,cond_false,cond_false];exact ih _
  | false=>rw [k2w,cond_true,cond_true,j2r];exact ih _
def bndF(q:Query)(f:List Int):List Y2:=envA q.arrows (f.drop q.dots.length) (bD q.dots f [])
theorem v1b(q:Query)(f:List Int)(hN:q.dots.length≤100)(ha:q.arrows.length+1=q.dots.length)(hf:f.length=2*q.dots.length - 1)(n:Nat)(hn:200≤n):
  q49z n (q,f,())=some (bndF q f,()):=by
 unfold q49z;dsimp only;rw [k1k n _ _ q.dots n _ _ _ (by omega) (by omega)];refine Eq.trans (e1x n _ _ q f q.dots [] f [] rfl (by omega)) ?_;dsimp only;rw [q1r n _ _ q.arrows n _ _ _ (by omega) (by omega)];exact g1g n (fun _=>none) (fun(o24,_)=>some (o24,())) q hN f (by omega) q.arrows [] (f.drop q.dots.length) (bD q.dots f []) rfl (by rw [k2t];omega)
def AG(m1 m2:List Y2):Prop:=∀s,seq s ⟨#[]⟩=false→a0g .str .i64 0 m1 s=a0g .str .i64 0 m2 s
theorem AG.put{m1 m2:List Y2}(h:AG m1 m2)(k:ByteArray)(y:Int):AG (a0e .str .i64 m1 k y) (a0e .str .i64 m2 k y):=by
 intro s hs;rw [a0i (vt:= .i64),a0i (vt:= .i64),h s hs]
theorem AG.put0{m1 m2:List Y2}(h:AG m1 m2){k:ByteArray}(hk:seq k ⟨#[]⟩=true)(y:Int):AG (a0e .str .i64 m1 k y) m2:=by
 intro s hs;rw [a0i (vt:= .i64), ←h s hs];cases h2:seq s k with
 | false=>rfl
 | true=>rw [(a0b _ _).1 h2,hk]at hs;cases hs
theorem ag_D: ∀(l:List Ev.Dot) (s:List Int) (m1 m2:List Y2),(∀y∈s.take l.length,y≠0)→AG m1 m2→AG (bD l s m1) (envD l s m2)
 | [],s,m1,m2,_,h=>by cases s<;>exact h
 | d::r, [],m1,m2,_,h=>h
 | d::r,y::s,m1,m2,hy,h=>by
  rw [bD,envD];have h0:(y !=0)=true:=by rw [bne_iff_ne];exact hy y (by simp)
  refine ag_D r s _ _ (fun z hz=>hy z (by rw [k2i,List.take_succ_cons];exact l2c _ hz)) ?_;cases hs:seq d.name ⟨#[]⟩with
  | true=>rw [k2e,cond_false];exact h.put0 hs y
  | false=>rw [k2w,cond_true,h0,cond_true];exact h.put d.name y
theorem ag_A: ∀(l:List Ev.Arrow) (s:List Int) (m1 m2:List Y2),AG m1 m2→AG (envA l s m1) (envA l s m2)
 | [],s,m1,m2,h=>by cases s<;>exact h
 | d::r, [],m1,m2,h=>h
 | d::r,y::s,m1,m2,h=>by
  rw [envA,envA];refine ag_A r s _ _ ?_;cases hs:seq d.name ⟨#[]⟩with
  | true=>exact h
  | false=>exact h.put d.name y
theorem w1l: ∀(l:List Ev.Dot) (b:List Y6),(a0s .str .bool b ⟨#[]⟩=false∧∀s,a0g .str .bool false b s=false)→(a0s .str .bool (nmD l b) ⟨#[]⟩=false∧∀s,a0g .str .bool false (nmD l b) s=false)
 | [],b,h=>h
 | d::r,b,h=>by
  rw [nmD];refine w1l r _ ?_;cases hs:seq d.name ⟨#[]⟩with
  | true=>exact h
  | false=>
   rw [k2w,cond_true];refine⟨?_,fun s=> ?_⟩
   ·rw [f0j (vt:= .bool),h.1]
    cases h2:seq ⟨#[]⟩ d.name with
    | false=>rfl
    | true=>rw [←(a0b _ _).1 h2,a0r]at hs;cases hs
   ·rw [a0i (vt:= .bool),h.2 s]
    cases seq s d.name<;>rfl
theorem o1i: ∀(l:List Ev.Arrow) (b b' :List Y6),a0s .str .bool b ⟨#[]⟩=false→nmA l b=some b' →a0s .str .bool b' ⟨#[]⟩=false
 | [],b,b',h,e=>by cases e;exact h
 | d::r,b,b',h,e=>by
  rw [nmA]at e;cases hs:seq d.name ⟨#[]⟩with
  | true=>rw [hs,cond_true]at e;exact o1i r b b' h e
  | false=>
   rw [hs,cond_false]at e;cases hh:a0s .str .bool b d.name with
   | true=>rw [hh]at e;cases e
   | false=>
    rw [hh,cond_false]at e;refine o1i r _ b' ?_ e;rw [f0j (vt:= .bool),h];cases h2:seq ⟨#[]⟩ d.name with
    | false=>rfl
    | true=>rw [←(a0b _ _).1 h2,a0r]at hs;cases hs
theorem EB_A(g:Graph): ∀(l:List Ev.Arrow) (s:List Int) (b b' :List Y6) (m:List Y2),l.length≤s.length→(∀(j:Nat) a e,l[j]? =some a→s[j]? =some e→seq a.name ⟨#[]⟩=false→(c0m g.edges e).isSome=true)→EB g b m→nmA l b=some b' →EB g b' (envA l s m)
 | [],s,b,b',m,_,_,h,e=>by
  cases e;cases s<;>exact h
 | d::r, [],b,b',m,hl,_,h,e=>by simp at hl
 | d::r,y::s,b,b',m,hl,hy,h,e=>by
  rw [nmA]at e;rw [envA];have hy' : ∀(j:Nat) a e,r[j]? =some a→s[j]? =some e→seq a.name ⟨#[]⟩=false→(c0m g.edges e).isSome=true:=fun j a e h1 h2=>hy (j+1) a e (by simpa using h1) (by simpa using h2);cases hs:seq d.name ⟨#[]⟩with
  | true=>
   rw [hs,cond_true]at e;exact EB_A g r s b b' m (by simpa using hl) hy' h e
  | false=>
   rw [hs,cond_false]at e;cases hh:a0s .str .bool b d.name with
   | true=>rw [hh]at e;cases e
   | false=>
    rw [hh,cond_false]at e;rw [k2w,cond_true];refine EB_A g r s _ b' _ (by simpa using hl) hy' (fun s' hs' => ?_) e;rw [a0i (vt:= .bool)]at hs';rw [a0i (vt:= .i64)];cases h2:seq s' d.name with
    | true=>rw [cond_true];exact hy 0 d y rfl rfl hs
    | false=>rw [h2,cond_false]at hs';rw [cond_false];exact h s' hs'
end Pure
namespace Pure
open Esp Ev Go
set_option linter.unusedSimpArgs false
set_option linter.unusedVariables false
abbrev Rw:=List Int×List Int
def alt:List Int→List Int→List Int
 | d::ds,e::es=>d::e::alt ds es
 | ds,_=>ds
theorem e1z: ∀(ds es:List Int) (e x:Int),ds.length=es.length+1→alt (ds++ [x]) (es++ [e])=alt ds es++ [e,x]
 | [],es,e,x,h=>by simp at h
 | [d], [],e,x,h=>rfl
 | d::d2::ds, [],e,x,h=>by simp at h
 | d::ds,f::es,e,x,h=>by
  have:=e1z ds es e x (by simpa using h);show d::f::alt (ds++ [x]) (es++ [e])=d::f::(alt ds es++ [e,x]);rw [this]
theorem z0z: ∀(ds es:List Int) (i:Nat),ds.length=es.length+1→(alt ds es)[2*i]? =ds[i]?
 | [],es,i,h=>by simp at h
 | [d], [],i,h=>by
  cases i with
  | zero=>rfl
  | succ j=>show([d]:List Int)[2*(j+1)]? = [d][j+1]?;simp
 | d::d2::ds, [],i,h=>by simp at h
 | d::ds,f::es,i,h=>by
  cases i with
  | zero=>rfl
  | succ j=>
   have:=z0z ds es j (by simpa using h);show(d::f::alt ds es)[2*(j+1)]? =(d::ds)[j+1]?;rw [show 2*(j+1)=2*j+1+1 by omega,List.getElem?_cons_succ,List.getElem?_cons_succ,List.getElem?_cons_succ];exact this
theorem b1y: ∀(ds es:List Int),ds.length=es.length+1→(alt ds es).length=ds.length+es.length
 | [],es,h=>by simp at h
 | [d], [],h=>rfl
 | d::d2::ds, [],h=>by simp at h
 | d::ds,f::es,h=>by
  have:=b1y ds es (by simpa using h);show(d::f::alt ds es).length=_;simp only [k2i,this];omega
def exts(g:Graph)(pre:List Ev.Dot)(d:Ev.Dot)(a:Ev.Arrow)(ks:List Ev.Pair)(p:Rw):List Rw:=
 g.nodes.flatMap fun x=>bif dotB d x&&fitL pre p.1 d.name x.id then(e0s g a ks (p.1.getLast?.getD 0) x.id).map (fun e=>(p.1++ [x.id],p.2++ [e]))else []
def bfs(g:Graph):List Y15→List Ev.Dot→List Rw→List Rw
 | [],_,L=>L
 | (d,a,ks)::r,pre,L=>bfs g r (pre++ [d]) (L.flatMap (exts g pre d a ks))
theorem d1z(g:Graph)(fin:List Int→List Int→List Y0): ∀(rem:List Y15) (pre:List Ev.Dot) (L:List Rw),L.flatMap (fun p=>g0g g fin rem pre p.1 p.2)=(bfs g rem pre L).flatMap fun p=>fin p.1 p.2
 | [],pre,L=>rfl
 | (d,a,ks)::r,pre,L=>by
  rw [bfs, ←d1z g fin r (pre++ [d]),List.flatMap_assoc];congr 1;funext p;rw [g0g];unfold exts;rw [List.flatMap_assoc];congr 1;funext x;cases dotB d x&&fitL pre p.1 d.name x.id with
  | false=>rfl
  | true=>rw [cond_true,cond_true,List.flatMap_map]
def bfs0(g:Graph)(d:Ev.Dot):List Rw:=g.nodes.flatMap fun x=>bif dotB d x&&fitL [] [] d.name x.id then [([x.id], [])]else []
theorem r1k(g:Graph)(fin:List Int→List Int→List Y0)(d:Ev.Dot)(rem:List Y15):p0m g fin d rem=(bfs g rem [d] (bfs0 g d)).flatMap fun p=>fin p.1 p.2:=by
 rw [←d1z];unfold p0m bfs0;rw [List.flatMap_assoc];congr 1;funext x;cases dotB d x&&fitL [] [] d.name x.id with
 | false=>rfl
 | true=>simp
theorem d1u{α β:Type}(p:α→β→Bool)(y:β)(E:List β): ∀N:List α,(N.flatMap fun x=>(y::E).filter (p x)).length=(N.flatMap fun x=>E.filter (p x)).length+(N.filter fun x=>p x y).length
 | []=>rfl
 | x::r=>by
  have ih:=d1u p y E r;have e1:((y::E).filter (p x)).length=(E.filter (p x)).length+(if p x y=true then 1 else 0):=by
   rw [List.filter_cons];cases p x y<;>rfl
  have e2:((x::r).filter fun x=>p x y).length=(r.filter fun x=>p x y).length+(if p x y=true then 1 else 0):=by
   rw [List.filter_cons];cases p x y<;>rfl
  rw [k2n,k2n,j2y,j2y,e1,e2,ih];omega
theorem q1g{α:Type}(idf:α→Int)(P:α→Bool)(v:Int)(hP: ∀x,P x=true→idf x=v): ∀N:List α,Rise idf N→(N.filter P).length≤1
 | [],_=>by simp
 | x::r,h=>by
  have h2:=List.pairwise_cons.1 h;rw [List.filter_cons];cases hx:P x with
  | false=>simpa using q1g idf P v hP r h2.2
  | true=>
   have:r.filter P= []:=by
    rw [List.filter_eq_nil_iff];intro y hy hyp;have h3:=h2.1 y hy;have e1:=hP x hx;have e2:=hP y hyp;omega
   rw [if_pos rfl,this];simp
theorem o0a{α β:Type}(idf:α→Int)(f:β→Int)(p:α→β→Bool)(hp: ∀x y,p x y=true→idf x=f y)(N:List α)(hN:Rise idf N): ∀E:List β,(N.flatMap fun x=>E.filter (p x)).length≤E.length
 | []=>by
  have:(N.flatMap fun x=>([]:List β).filter (p x))= []:=by rw [List.flatMap_eq_nil_iff];intro x _;rfl
  rw [this];exact k2h _
 | y::E=>by
  have:=o0a idf f p hp N hN E;have h1:=q1g idf (fun x=>p x y) (f y) (fun x h=>hp x y h) N hN;rw [d1u,k2i];omega
theorem j1d{α β γ:Type}(c:α→Bool)(A:α→List β)(B:α→List γ)(h: ∀x,(A x).length=(B x).length): ∀N:List α,(N.flatMap fun x=>bif c x then A x else []).length≤(N.flatMap B).length
 | []=>by simp
 | x::r=>by
  have ih:=j1d c A B h r;rw [k2n,k2n,j2y,j2y, ←h x];cases c x with
  | true=>rw [cond_true];omega
  | false=>rw [cond_false,List.length_nil];omega
theorem e0j{α β:Type}(A:α→List β)(h: ∀x,(A x).length≤1): ∀N:List α,(N.flatMap A).length≤N.length
 | []=>by simp
 | x::r=>by
  have:=e0j A h r;have:=h x;simp only [k2n,j2y,k2i]at this⊢;omega
theorem g1k(g:Graph)(h40:g.nodes.length≤40)(h60:g.edges.length≤60)(hr:Rise Ev.Node.id g.nodes)(pre:List Ev.Dot)(d:Ev.Dot)(a:Ev.Arrow)(ks:List Ev.Pair)(p:Rw):(exts g pre d a ks p).length≤60:=by
 unfold exts;refine k2x (j1d _ _ (fun x=>e0s g a ks (p.1.getLast?.getD 0) x.id) (fun x=>by simp) g.nodes) ?_;cases hm:a.many with
 | true=>
  refine k2x (e0j _ (fun x=> ?_) g.nodes) (by omega);unfold e0s l0x;rw [hm];cases a.back with
  | true=>rw [cond_true,cond_true];cases decide (Ev.Pair.mk x.id (p.1.getLast?.getD 0)∈ks)<;>simp
  | false=>rw [cond_true,cond_false];cases decide (Ev.Pair.mk (p.1.getLast?.getD 0) x.id∈ks)<;>simp
 | false=>
  cases hb:a.back with
  | false=>
   have:=o0a Ev.Node.id Edg.dst (fun x y=>okE a (p.1.getLast?.getD 0) x.id y) (fun x y h=>by
    unfold okE at h;simp only [j2s,beq_iff_eq]at h;exact h.1.2.symm) g.nodes hr g.edges
   refine k2x (Nat.le_of_eq ?_) (k2x this h60);rw [←k2v (f:=Edg.id),List.map_flatMap];congr 2;funext x;unfold e0s l0x;rw [hm,hb];rfl
  | true=>
   have:=o0a Ev.Node.id Edg.src (fun x y=>okE a x.id (p.1.getLast?.getD 0) y) (fun x y h=>by
    unfold okE at h;simp only [j2s,beq_iff_eq]at h;exact h.1.1.symm) g.nodes hr g.edges
   refine k2x (Nat.le_of_eq ?_) (k2x this h60);rw [←k2v (f:=Edg.id),List.map_flatMap];congr 2;funext x;unfold e0s l0x;rw [hm,hb];rfl
theorem u0v{α β:Type}(A:α→List β)(k:Nat): ∀N:List α,(∀x∈N,(A x).length≤k)→(N.flatMap A).length≤N.length*k
 | [],_=>by simp
 | x::r,h=>by
  have:=u0v A k r fun y hy=>h y (l2c _ hy);have:=h x (by simp);simp only [k2n,j2y,k2i,m2h,Nat.one_mul]at*;omega
theorem a2g(a:Ev.Arrow)(fr tg:Int)(y:Ev.Edg):((((y.src:Int)==fr)&& ((y.dst:Int)==tg))&& ((seq a.type (⟨#[]⟩:ByteArray)) || (seq a.type y.type)))=okE a fr tg y:=by
 unfold okE;have:seq a.type y.type=seq y.type a.type:=by
  cases h1:seq a.type y.type with
  | true=>rw [(a0b _ _).1 h1,a0r]
  | false=>
   cases h2:seq y.type a.type with
   | false=>rfl
   | true=>rw [(a0b _ _).1 h2,a0r]at h1;cases h1
 rw [this]
theorem o1b{n:Nat}(h:n≤1000000001):room n 24=true:=by
 unfold room;rw [j2s];exact⟨k2k (by omega),k2k (by omega)⟩
theorem p1q{ρ:Type}(n:Nat)(hn:100≤n)(kr:Unit→Option ρ)(K:Int×Y21×Int×Y0×Int×Int×Y8×Int×Int×Y11×Int×Int×Y4×Y7×Y8×Unit→Option ρ)
  (v1:Int)(R:List Y3)(k:Int)(w:List Int)(hw:w.length≤390)(fr tg:Int)(b1 b2:Int)(part:List Y0)(b3 b4:Int)(ns:List Ev.Node)(b5 b6:Int)(q:Query)(g:Graph)(x:Ev.Node)(a:Ev.Arrow):
  ∀(l:List Edg) (i:Int) (out:List Y0),out.length+(l.filter (okE a fr tg)).length≤1000000000→
   a0c (i0a n kr) (fun(v105,v106,v107,v108,v109,v110,v111,v112,v113,v114,v115,v116,v117,v118,o122,o123,o124,o125,o126,_)=>K (v105,v106,v107,v108,v111,v112,v113,v114,v115,v116,v117,v118,o122,o123,o124,())) i l (v1,R,k,w,fr,tg,b1,b2,part,b3,b4,ns,b5,b6,(q,()),(g,()),out,(x,()),(a,()),())
    =K (v1,R,k,w,b1,b2,part,b3,b4,ns,b5,b6,(q,()),(g,()),out++(l.filter (okE a fr tg)).map (fun y=>w++ [y.id,x.id]),())
 | [],i,out,h=>by rw [a0c,List.filter_nil,m2f,k2y]
 | y::r,i,out,h=>by
  have ih:=p1q n hn kr K v1 R k w hw fr tg b1 b2 part b3 b4 ns b5 b6 q g x a r (i+1);rw [a0c];unfold i0a at ih⊢;dsimp only at ih⊢;rw [a2g];cases hk:okE a fr tg y with
  | false=>
   rw [List.filter_cons,hk]at h⊢;rw [cond_false];exact ih out (by simpa using h)
  | true=>
   rw [List.filter_cons,hk]at h⊢;rw [cond_true,p0v n hn w [y.id,x.id] (by omega) (by simp),j2r,d0h (o1b (by simp at h⊢;omega)),if_pos rfl,k2l];rw [ih (out++ [w++ [y.id,x.id]]) (by simp at h⊢;omega),l2m];rfl
end Pure
namespace Pure
open Esp Ev Go
set_option linter.unusedSimpArgs false
set_option linter.unusedVariables false
theorem c2x{ρ:Type}(n:Nat)(kr:Unit→Option ρ)(K:Int×Y21×Int×Y0×Bool×Int×Int×Y8×Int×Int×Y11×Int×Int×Y4×Y7×Y8×Y18×Unit→Option ρ)
  (v1:Int)(R:List Y3)(k:Nat)(hk:k≤100)(d:Ev.Dot)(q:Query)(hd:q.dots[k]? =some d)(ds es:List Int)(hde: ∀i:Nat,i<ds.length→(alt ds es)[2*i]? =ds[i]?)(b0 b1:Int)(part:List Y0)(b3 b4:Int)(ns:List Ev.Node)(b5 b6:Int)(g:Graph)(out:List Y0)(x:Ev.Node):
  ∀(r p:List Ev.Dot) (s t:List Int) (b:Bool),q.dots.take k=p++r→ds=t++s→p.length=t.length→r.length=s.length→∀fuel,r.length<fuel→
   a0a (fun rc=>g0t n rc K kr) fuel (v1,R,(k:Int),alt ds es,b,b0,b1,part,b3,b4,ns,b5,b6,(k:Int),(p.length:Int),(q,()),(g,()),out,(x,()),())=K (v1,R,(k:Int),alt ds es,b&&fitL r s d.name x.id,b0,b1,part,b3,b4,ns,b5,b6,(q,()),(g,()),out,(x,()),())
 | [],p,s,t,b,h1,h2,h3,h4,fuel,hf=>by
  obtain⟨m,rfl⟩: ∃m,fuel=m+1:=⟨fuel - 1,by omega⟩;have hkl:=(k2a.1 hd).1;have hpl:p.length=k:=by
   have:=congrArg List.length h1;rw [k2g,k2y]at this;omega
  rw [a0a];unfold g0t;dsimp only;rw [decide_eq_false (by omega),cond_false];unfold fitL;rw [m2m]
 | e::r,p, [],t,b,h1,h2,h3,h4,fuel,hf=>by simp at h4
 | e::r,p,y::s,t,b,h1,h2,h3,h4,fuel,hf=>by
  obtain⟨m,rfl⟩: ∃m,fuel=m+1:=⟨fuel - 1,by omega⟩;have hpk:p.length<k:=by
   have:=congrArg List.length h1;rw [k2g,j2y,k2i]at this;omega
  have he:q.dots[p.length]? =some e:=by
   have:=congrArg (fun l=>l[p.length]?) h1;rw [l2y,if_pos hpk]at this;rw [this];simp
  have hy:(alt ds es)[2*p.length]? =some y:=by
   rw [hde p.length (by rw [h2,h3];simp),h2,h3];simp
  have IH:=fun b=>c2x n kr K v1 R k hk d q hd ds es hde b0 b1 part b3 b4 ns b5 b6 g out x r (p++ [e]) s (t++ [y]) b (by rw [h1];simp) (by rw [h2];simp) (by simp [h3]) (by simpa using h4) m (by simp at hf;omega);rw [j2y,k2u,Int.natCast_add]at IH;have hw:IntKind.wrap .i64 ((p.length:Int)+1)=(p.length:Int)+1:=a0h (by omega) (by omega);rw [a0a];generalize a0a (fun rc=>g0t n rc K kr) m=I at IH⊢;unfold g0t;dsimp only;rw [decide_eq_true (by omega),cond_true,hw,a0k hd,a0k he,show(2:Int)*(p.length:Int)=((2*p.length:Nat):Int)by omega,a0h (by omega) (by omega),a0k hy];simp only [j2r];rw [fitL];cases b with
  | false=>rw [cond_false,l2z];exact(IH false).trans (by rw [l2z])
  | true=>
   rw [cond_true,l2e];cases hdn:seq d.name (⟨#[]⟩:ByteArray)with
   | true=>
    have:seq e.name d.name=seq e.name ⟨#[]⟩:=by rw [(a0b _ _).1 hdn]
    rw [cond_true,this];refine(IH true).trans ?_;cases seq e.name ⟨#[]⟩<;>simp
   | false=>
    rw [cond_false];cases hen:seq e.name d.name with
    | false=>rw [k2w,cond_true];refine(IH true).trans ?_;simp
    | true=>
     have:seq e.name ⟨#[]⟩=false:=by rw [(a0b _ _).1 hen];exact hdn
     rw [k2e,cond_false,this,k2m,k2m];exact IH _
def wC{ρ:Type}(n:Nat)(rec:Int×Y21×Int×Y0×Int×Int×Y8×Int×Int×Y11×Int×Int×Y4×Y7×Y8×Unit→Option ρ):Int×Y21×Int×Y0×Bool×Int×Int×Y8×Int×Int×Y11×Int×Int×Y4×Y7×Y8×Y18×Unit→Option ρ:=
 fun(v83,v84,v85,v86,v87,v88,v89,v90,v91,v92,v93,v94,v95,o96,o97,o98,o99,_)=>
 (bif !v87 then rec (v83,v84,v85,v86,v88,v89,v90,v91,v92,v93,v94,IntKind.wrap .i64 (v95+1),o96,o97,o98,())
 else
 (bif (v85:Int)==0 then
 ck (room (o98++([([o99.1.id]:List Int)]:List Y0)).length 24) (rec (v83,v84,v85,v86,v88,v89,v90,v91,v92,v93,v94,IntKind.wrap .i64 (v95+1),o96,o97,o98++([([o99.1.id]:List Int)]:List Y0),()))
 else
 (ix o96.1.arrows (IntKind.wrap .i64 (v85 - 1))).bind fun x100=>
 (ix v86 (IntKind.wrap .i64 ((IntKind.wrap .i64 (2*v85)) - 2))).bind fun x102=>
 (bif x100.back then
 (bif x100.many then
 (ix v84 (IntKind.wrap .i64 (v85 - 1))).bind fun x103=>
 (bif (a0g .pair .bool false x103 (Ev.Pair.mk o99.1.id x102))then
 (q26z n (([v86,([0,o99.1.id]:List Int)]:List Y0),())).bind fun(y104,_)=>
 ck (room (o98++([y104]:List Y0)).length 24) (rec (v83,v84,v85,v86,v88,v89,v90,v91,v92,v93,v94,IntKind.wrap .i64 (v95+1),o96,o97,o98++([y104]:List Y0),()))
 else rec (v83,v84,v85,v86,v88,v89,v90,v91,v92,v93,v94,IntKind.wrap .i64 (v95+1),o96,o97,o98,()))
 else
 a0a (fun rc144=>e0e n rc144 (fun(v129,v130,v131,v132,v133,v134,v135,v136,v137,v138,v139,v140,o141,o142,o143,_)=>rec (v129,v130,v131,v132,v133,v134,v135,v136,v137,v138,v139,IntKind.wrap .i64 (v140+1),o141,o142,o143,())) (fun(_)=>none)) (n) (v83,v84,v85,v86,o99.1.id,x102,v88,v89,v90,v91,v92,v93,v94,v95,o97.1.edges,(o97.1.edges.length:Int),0,o96,o97,o98,o99,(x100,()),()))
 else
 (bif x100.many then
 (ix v84 (IntKind.wrap .i64 (v85 - 1))).bind fun x145=>
 (bif (a0g .pair .bool false x145 (Ev.Pair.mk x102 o99.1.id))then
 (q26z n (([v86,([0,o99.1.id]:List Int)]:List Y0),())).bind fun(y146,_)=>
 ck (room (o98++([y146]:List Y0)).length 24) (rec (v83,v84,v85,v86,v88,v89,v90,v91,v92,v93,v94,IntKind.wrap .i64 (v95+1),o96,o97,o98++([y146]:List Y0),()))
 else rec (v83,v84,v85,v86,v88,v89,v90,v91,v92,v93,v94,IntKind.wrap .i64 (v95+1),o96,o97,o98,()))
 else
 a0a (fun rc162=>e0e n rc162 (fun(v147,v148,v149,v150,v151,v152,v153,v154,v155,v156,v157,v158,o159,o160,o161,_)=>rec (v147,v148,v149,v150,v151,v152,v153,v154,v155,v156,v157,IntKind.wrap .i64 (v158+1),o159,o160,o161,())) (fun(_)=>none)) (n) (v83,v84,v85,v86,x102,o99.1.id,v88,v89,v90,v91,v92,v93,v94,v95,o97.1.edges,(o97.1.edges.length:Int),0,o96,o97,o98,o99,(x100,()),())))))
def EOk(q:Query)(g:Graph)(R:List Y3)(k:Nat)(w:List Int)(x:Int)(E:List Y0):Prop:=
 (k=0∧E= [[x]])∨(1≤k∧∃a ks last,q.arrows[k - 1]? =some a∧(a.many=true→R[k - 1]? =some (tr ks))∧w[2*k - 2]? =some last∧E=(e0s g a ks last x).map fun e=>w++ [e,x])
theorem h2y{ρ:Type}(n:Nat)(hn:100≤n)(rec:_→Option ρ)(v1:Int)(R:List Y3)(k:Nat)(hk:k≤100)(w:List Int)(hw:w.length≤390)(b0 b1:Int)(part:List Y0)(b3 b4:Int)(ns:List Ev.Node)(b5 b6:Int)(q:Query)(g:Graph)(h60:g.edges.length≤60)(out:List Y0)(x:Ev.Node)(E:List Y0)(hE:EOk q g R k w x.id E)(hl:out.length+E.length≤1000000000):
  wC n rec (v1,R,(k:Int),w,true,b0,b1,part,b3,b4,ns,b5,b6,(q,()),(g,()),out,(x,()),())=rec (v1,R,(k:Int),w,b0,b1,part,b3,b4,ns,b5,IntKind.wrap .i64 (b6+1),(q,()),(g,()),out++E,()):=by
 unfold wC;dsimp only;rw [k2e,cond_false];rcases hE with⟨rfl,rfl⟩ | ⟨h1,a,ks,last,ha,hR,hlast,rfl⟩
 ·rw [show(((0:Nat):Int)==0)=true from rfl,cond_true,d0h (o1b (by simp at hl⊢;omega))]
 ·rw [show((k:Int)==0)=false by rw [beq_eq_false_iff_ne];omega,cond_false,show(k:Int) - 1=((k - 1:Nat):Int)by omega,a0h (x:=((k - 1:Nat):Int)) (by omega) (by omega),a0k ha,j2r,
   a0h (x:=2*(k:Int)) (by omega) (by omega),show 2*(k:Int) - 2=((2*k - 2:Nat):Int)by omega,a0h (x:=((2*k - 2:Nat):Int)) (by omega) (by omega),a0k hlast,j2r]
  unfold e0s l0x at hl⊢;cases hm:a.many with
  | true=>
   have hR:=hR hm;rw [hm]at hl;cases hb:a.back with
   | true=>
    rw [hb]at hl;simp only [cond_true,a0k hR,j2r,j0d]at hl⊢;cases hd:decide (Ev.Pair.mk x.id last∈ks)with
    | true=>
     rw [hd,cond_true]at hl;rw [cond_true,cond_true,p0v n hn w [0,x.id] (by omega) (by simp),j2r,d0h (o1b (by simp at hl⊢;omega))];rfl
    | false=>rw [cond_false,cond_false,m2f,k2y]
   | false=>
    rw [hb]at hl;simp only [cond_true,cond_false,a0k hR,j2r,j0d]at hl⊢;cases hd:decide (Ev.Pair.mk last x.id∈ks)with
    | true=>
     rw [hd,cond_true]at hl;rw [cond_true,cond_true,p0v n hn w [0,x.id] (by omega) (by simp),j2r,d0h (o1b (by simp at hl⊢;omega))];rfl
    | false=>rw [cond_false,cond_false,m2f,k2y]
  | false=>
   rw [hm]at hl;cases hb:a.back with
   | true=>
    rw [hb]at hl;simp only [cond_true,cond_false,List.map_map,k2v]at hl⊢;rw [r0a n _ _ g.edges n _ _ _ _ _ _ _ _ _ _ _ _ _ _ _ _ _ _ _ (by omega) (by omega)];exact p1q n hn _ (fun(v129,v130,v131,v132,v133,v134,v135,v136,v137,v138,v139,v140,o141,o142,o143,_)=>rec (v129,v130,v131,v132,v133,v134,v135,v136,v137,v138,v139,IntKind.wrap .i64 (v140+1),o141,o142,o143,())) v1 R k w hw x.id last b0 b1 part b3 b4 ns b5 b6 q g x a g.edges 0 out hl
   | false=>
    rw [hb]at hl;simp only [cond_true,cond_false,List.map_map,k2v]at hl⊢;rw [r0a n _ _ g.edges n _ _ _ _ _ _ _ _ _ _ _ _ _ _ _ _ _ _ _ (by omega) (by omega)];exact p1q n hn _ (fun(v129,v130,v131,v132,v133,v134,v135,v136,v137,v138,v139,v140,o141,o142,o143,_)=>rec (v129,v130,v131,v132,v133,v134,v135,v136,v137,v138,v139,IntKind.wrap .i64 (v140+1),o141,o142,o143,())) v1 R k w hw last x.id b0 b1 part b3 b4 ns b5 b6 q g x a g.edges 0 out hl
theorem e2s{ρ:Type}(n:Nat)(hn:400≤n)(kr:Unit→Option ρ)(K:Int×Y21×Int×Int×Int×Y8×Int×Int×Y4×Y7×Y8×Unit→Option ρ)
  (v1:Int)(R:List Y3)(k:Nat)(hk:k≤100)(d:Ev.Dot)(q:Query)(hd:q.dots[k]? =some d)(ds es:List Int)(hds:ds.length=k)(hde: ∀i:Nat,i<ds.length→(alt ds es)[2*i]? =ds[i]?)(hw:(alt ds es).length≤390)(b0 b1:Int)(part:List Y0)(b3 b4:Int)(g:Graph)(h40:g.nodes.length≤40)(h60:g.edges.length≤60)(hlab: ∀x∈g.nodes,x.labels.length≤100)
  (E:Int→List Y0)(hE: ∀x,EOk q g R k (alt ds es) x (E x)):
  ∀(r p:List Ev.Node),g.nodes=p++r→∀(out:List Y0) (fuel:Nat),r.length<fuel→out.length+(r.flatMap fun x=>bif dotB d x&&fitL (q.dots.take k) ds d.name x.id then E x.id else []).length≤1000000000→
   a0a (fun rc=>l0o n rc K kr) fuel (v1,R,(k:Int),alt ds es,b0,b1,part,b3,b4,g.nodes,(g.nodes.length:Int),(p.length:Int),(q,()),(g,()),out,())
    =K (v1,R,(k:Int),b0,b1,part,b3,b4,(q,()),(g,()),out++(r.flatMap fun x=>bif dotB d x&&fitL (q.dots.take k) ds d.name x.id then E x.id else []),())
 | [],p,hp,out,fuel,hf,hl=>by
  obtain⟨m,rfl⟩: ∃m,fuel=m+1:=⟨fuel - 1,by omega⟩;rw [a0a];unfold l0o;dsimp only;rw [decide_eq_false (by rw [hp];simp),cond_false,m2i,k2y]
 | x::r,p,hp,out,fuel,hf,hl=>by
  obtain⟨m,rfl⟩: ∃m,fuel=m+1:=⟨fuel - 1,by omega⟩;have hxm:x∈g.nodes:=by rw [hp];simp
  have hx:g.nodes[p.length]? =some x:=by rw [hp];simp
  have hlt:p.length<g.nodes.length:=(k2a.1 hx).1;have hkl:=(k2a.1 hd).1;have IH:=fun out=>e2s n hn kr K v1 R k hk d q hd ds es hds hde hw b0 b1 part b3 b4 g h40 h60 hlab E hE r (p++ [x]) (by rw [hp];simp) out m (by simp at hf;omega);rw [j2y,k2u,Int.natCast_add]at IH;have hwr:IntKind.wrap .i64 ((p.length:Int)+1)=(p.length:Int)+1:=a0h (by omega) (by omega);have hwr2:IntKind.wrap .i64 ((p.length:Int)+1)=(p.length:Int)+((1:Nat):Int):=hwr;rw [k2n]at hl⊢;rw [a0a];generalize a0a (fun rc=>l0o n rc K kr) m=I at IH⊢;have tail:dotB d x=true→a0a (fun rc=>g0t n rc (wC n I) (fun _=>none)) n (v1,R,(k:Int),alt ds es,true,b0,b1,part,b3,b4,g.nodes,(g.nodes.length:Int),(p.length:Int),(k:Int),0,(q,()),(g,()),out,(x,()),())
    =K (v1,R,(k:Int),b0,b1,part,b3,b4,(q,()),(g,()),out++((bif dotB d x&&fitL (q.dots.take k) ds d.name x.id then E x.id else [])++(r.flatMap fun x=>bif dotB d x&&fitL (q.dots.take k) ds d.name x.id then E x.id else [])),()):=by
   intro hdx;refine Eq.trans (c2x n (fun _=>none) (wC n I) v1 R k hk d q hd ds es hde b0 b1 part b3 b4 g.nodes _ _ g out x (q.dots.take k) [] ds [] true rfl rfl rfl (by rw [k2g,hds];omega) n (by rw [k2g];omega)) ?_;rw [hdx]at hl⊢;rw [l2e]at hl⊢;cases hfx:fitL (q.dots.take k) ds d.name x.id with
   | false=>
    rw [hfx,cond_false,l2j]at hl;rw [cond_false,l2j];have:=IH out hl;rw [←hwr2]at this;exact this
   | true=>
    rw [hfx,cond_true,j2y]at hl;rw [cond_true];have:=IH (out++E x.id) (by rw [j2y];omega);rw [←hwr2]at this;rw [←l2m];exact(h2y n (by omega) I v1 R k hk _ hw b0 b1 part b3 b4 _ _ _ q g h60 out x (E x.id) (hE x.id) (by omega)).trans this
  unfold l0o;dsimp only;rw [decide_eq_true (by omega),cond_true,a0k hx,j2r,a0k hd,j2r];cases hlb:seq d.label (⟨#[]⟩:ByteArray)with
  | true=>
   rw [k2e,cond_false];exact tail (by unfold dotB;rw [hlb];rfl)
  | false=>
   rw [k2w,cond_true,j2r,i0m _ _ n (hlab x hxm) (by omega),j2r];dsimp only;cases hh:hasL x.labels d.label with
   | true=>
    rw [k2e,cond_false];exact tail (by unfold dotB;rw [hlb,hh];rfl)
   | false=>
    have hdx:dotB d x=false:=by unfold dotB;rw [hlb,hh];rfl
    rw [hdx,l2z,cond_false,l2j]at hl⊢;rw [k2w,cond_true,hwr];exact IH out hl
end Pure
namespace Pure
open Esp Ev Go
set_option linter.unusedSimpArgs false
set_option linter.unusedVariables false
def EE(g:Graph)(dk:List Ev.Dot)(d:Ev.Dot)(E:Rw→Int→List Y0)(p:Rw):List Y0:=g.nodes.flatMap fun x=>bif dotB d x&&fitL dk p.1 d.name x.id then E p x.id else []
theorem a2y{ρ:Type}(n:Nat)(hn:400≤n)(kr:Unit→Option ρ)(K:Int×Y21×Int×Int×Y4×Y7×Y8×Unit→Option ρ)
  (v1:Int)(R:List Y3)(k:Nat)(hk:k≤100)(d:Ev.Dot)(q:Query)(hd:q.dots[k]? =some d)(b0 b1:Int)(g:Graph)(h40:g.nodes.length≤40)(h60:g.edges.length≤60)(hlab: ∀x∈g.nodes,x.labels.length≤100)
  (E:Rw→Int→List Y0)(L:List Rw)(hL:L.length≤1000000000)(hr: ∀p∈L,p.1.length=k∧(∀i:Nat,i<p.1.length→(alt p.1 p.2)[2*i]? =p.1[i]?)∧(alt p.1 p.2).length≤390∧∀x,EOk q g R k (alt p.1 p.2) x (E p x)):
  ∀(r p:List Rw),L=p++r→∀(out:List Y0) (fuel:Nat),r.length<fuel→out.length+(r.flatMap (EE g (q.dots.take k) d E)).length≤1000000000→
   a0a (fun rc=>l0y n rc K kr) fuel (v1,R,(k:Int),b0,b1,L.map (fun p=>alt p.1 p.2),((L.map (fun p=>alt p.1 p.2)).length:Int),(p.length:Int),(q,()),(g,()),out,())
    =K (v1,R,b0,b1,(q,()),(g,()),out++r.flatMap (EE g (q.dots.take k) d E),())
 | [],p,hp,out,fuel,hf,hl=>by
  obtain⟨m,rfl⟩: ∃m,fuel=m+1:=⟨fuel - 1,by omega⟩;rw [a0a];unfold l0y;dsimp only;rw [decide_eq_false (by rw [hp];simp),cond_false,m2i,k2y]
 | x::r,p,hp,out,fuel,hf,hl=>by
  obtain⟨m,rfl⟩: ∃m,fuel=m+1:=⟨fuel - 1,by omega⟩;have hx:L[p.length]? =some x:=by rw [hp];simp
  have hlt:p.length<L.length:=(k2a.1 hx).1;have hxm:(L.map (fun p=>alt p.1 p.2))[p.length]? =some (alt x.1 x.2):=by rw [l2d,hx];rfl
  obtain⟨r1,r2,r3,r4⟩:=hr x (by rw [hp];simp);rw [k2n,j2y]at hl;have IH:=a2y n hn kr K v1 R k hk d q hd b0 b1 g h40 h60 hlab E L hL hr r (p++ [x]) (by rw [hp];simp) (out++EE g (q.dots.take k) d E x) m (by simp at hf;omega) (by rw [j2y];omega);rw [j2y,k2u,Int.natCast_add]at IH;have hwr:IntKind.wrap .i64 ((p.length:Int)+1)=(p.length:Int)+1:=a0h (by omega) (by omega);rw [k2n, ←l2m, ←IH,a0a];generalize a0a (fun rc=>l0y n rc K kr) m=I;unfold l0y;dsimp only;rw [decide_eq_true (by rw [k2v];omega),cond_true,a0k hxm,j2r];have:=e2s n hn (fun _=>none) (fun(v221,v222,v223,v224,v225,v226,v227,v228,o229,o230,o231,_)=>I (v221,v222,v223,v224,v225,v226,v227,IntKind.wrap .i64 (v228+1),o229,o230,o231,())) v1 R k hk d q hd x.1 x.2 r1 r2 r3 b0 b1 (L.map (fun p=>alt p.1 p.2)) ((L.map (fun p=>alt p.1 p.2)).length:Int) (p.length:Int) g h40 h60 hlab (E x) r4 g.nodes [] rfl out n (by omega) (by show out.length+(EE g (q.dots.take k) d E x).length≤_;omega);refine this.trans ?_;dsimp only;rw [hwr];rfl
structure RowOk(g:Graph)(q:Query)(k:Nat)(p:Rw):Prop where
 d:p.1.length=k
 e:p.2.length+1=k
 dn: ∀x∈p.1,x∈g.nodes.map Ev.Node.id
 en: ∀(j:Nat) a e,q.arrows[j]? =some a→p.2[j]? =some e→e∈g.edges.map Edg.id∨(a.many=true∧e=0)
theorem a2i{g:Graph}{q:Query}{k:Nat}{pre:List Ev.Dot}{d:Ev.Dot}{a:Ev.Arrow}{ks:List Ev.Pair}{p p' :Rw}(h:RowOk g q k p)(ha:q.arrows[k - 1]? =some a)(hp:p' ∈exts g pre d a ks p):RowOk g q (k+1) p' :=by
 unfold exts at hp;obtain⟨x,hx,hp⟩:=List.mem_flatMap.1 hp;cases hc:dotB d x&&fitL pre p.1 d.name x.id with
 | false=>rw [hc]at hp;cases hp
 | true=>
  rw [hc,cond_true]at hp;obtain⟨e,he,rfl⟩:=k2s.1 hp;have h1:=h.d;have h2:=h.e;refine⟨by simp [h1],by simp;omega,fun y hy=> ?_,fun j b f hb hf=> ?_⟩
  ·rcases l2v.1 hy with hy | hy
   ·exact h.dn y hy
   ·rw [l2r]at hy;subst hy;exact k2s.2 ⟨x,hx,rfl⟩
  ·by_cases hj:j<p.2.length
   ·rw [List.getElem?_append_left hj]at hf
    exact h.en j b f hb hf
   ·have hjl:=(k2a.1 hf).1
    have:j=p.2.length:=by simp at hjl;omega
    subst this;rw [m2a (k2h _),m2t]at hf;cases hf;rw [show k - 1=p.2.length by omega,hb]at ha;cases ha;unfold e0s l0x at he;cases hm:a.many with
    | true=>
     refine .inr ⟨rfl, ?_⟩;rw [hm]at he;cases hbk:a.back with
     | true=>rw [hbk,cond_true,cond_true]at he;cases hd:decide (Ev.Pair.mk x.id (p.1.getLast?.getD 0)∈ks)<;>rw [hd]at he<;>simp at he;exact he
     | false=>rw [hbk,cond_false,cond_true]at he;cases hd:decide (Ev.Pair.mk (p.1.getLast?.getD 0) x.id∈ks)<;>rw [hd]at he<;>simp at he;exact he
    | false=>
     refine .inl ?_;rw [hm]at he;cases hbk:a.back with
     | true=>rw [hbk,cond_true,cond_false]at he;obtain⟨y,hy,rfl⟩:=k2s.1 he;exact k2s.2 ⟨y,(List.mem_filter.1 hy).1,rfl⟩
     | false=>rw [hbk,cond_false,cond_false]at he;obtain⟨y,hy,rfl⟩:=k2s.1 he;exact k2s.2 ⟨y,(List.mem_filter.1 hy).1,rfl⟩
theorem z1h{g:Graph}{q:Query}{k:Nat}{p:Rw}(h:RowOk g q k p):(∀i:Nat,i<p.1.length→(alt p.1 p.2)[2*i]? =p.1[i]?)∧(alt p.1 p.2).length=2*k - 1∧(1≤k→(alt p.1 p.2)[2*k - 2]? =some (p.1.getLast?.getD 0)):=by
 have h1:=h.d;have h2:=h.e;have hl:p.1.length=p.2.length+1:=by omega
 refine⟨fun i _=>z0z _ _ i hl,by rw [b1y _ _ hl];omega,fun hk=> ?_⟩;rw [show 2*k - 2=2*(k - 1)by omega,z0z _ _ _ hl,List.getLast?_eq_getElem?,h1,j2x (by omega)];rfl
theorem x1g{g:Graph}{q:Query}{k:Nat}{pre:List Ev.Dot}{d:Ev.Dot}{a:Ev.Arrow}{ks:List Ev.Pair}{p:Rw}(h:RowOk g q k p):
  (exts g pre d a ks p).map (fun p=>alt p.1 p.2)=EE g pre d (fun p x=>(e0s g a ks (p.1.getLast?.getD 0) x).map fun e=>alt p.1 p.2++ [e,x]) p:=by
 have h1:=h.d;have h2:=h.e;unfold exts EE;rw [List.map_flatMap];congr 1;funext x;cases dotB d x&&fitL pre p.1 d.name x.id with
 | false=>rfl
 | true=>
  rw [cond_true,cond_true,List.map_map];refine List.map_congr_left fun e _=> ?_;exact e1z _ _ _ _ (by omega)
theorem f1b{α β γ:Type}(f:β→γ)(A:α→List β)(B:α→List γ): ∀L:List α,(∀x∈L,(A x).map f=B x)→(L.flatMap A).map f=L.flatMap B
 | [],_=>rfl
 | x::r,h=>by
  rw [k2n,k2n,List.map_append,h x (by simp),f1b f A B r fun y hy=>h y (l2c _ hy)]
theorem f2y{ρ:Type}(n:Nat)(hn:600000000≤n)(kr:Unit→Option ρ)(K:Int×Y8×Y4×Y7×Unit→Option ρ)
  (R:List Y3)(q:Query)(hN:q.dots.length≤100)(g:Graph)(h40:g.nodes.length≤40)(h60:g.edges.length≤60)(hlab: ∀x∈g.nodes,x.labels.length≤100)(hri:Rise Ev.Node.id g.nodes):
  ∀(rem:List Y15) (pre:List Ev.Dot) (ar:List Ev.Arrow) (L:List Rw),q.dots=pre++rem.map (fun z=>z.1)→q.arrows=ar++rem.map (fun z=>z.2.1)→pre.length=ar.length+1→(∀p∈L,RowOk g q pre.length p)→
   (∀j z,rem[j]? =some z→z.2.1.many=true→R[ar.length+j]? =some (tr z.2.2))→L.length*60 ^ rem.length≤518400000→∀fuel,rem.length<fuel→
   a0a (fun rc=>h0n n rc K kr) fuel ((q.dots.length:Int),R,L.map (fun p=>alt p.1 p.2),(q.dots.length:Int),(pre.length:Int),(q,()),(g,()),())=K ((q.dots.length:Int),(bfs g rem pre L).map (fun p=>alt p.1 p.2),(q,()),(g,()),())
    ∧∀p∈bfs g rem pre L,RowOk g q q.dots.length p
 | [],pre,ar,L,h1,h2,h3,h4,h5,h6,fuel,hf=>by
  obtain⟨m,rfl⟩: ∃m,fuel=m+1:=⟨fuel - 1,by omega⟩;rw [m2f,k2y]at h1;refine⟨?_,by rw [h1];exact h4⟩;rw [a0a];unfold h0n;dsimp only;rw [decide_eq_false (by rw [h1];omega),cond_false];rfl
 | (d,a,ks)::r,pre,ar,L,h1,h2,h3,h4,h5,h6,fuel,hf=>by
  obtain⟨m,rfl⟩: ∃m,fuel=m+1:=⟨fuel - 1,by omega⟩;have hl:pre.length<q.dots.length:=by rw [h1];simp
  have ed:q.dots[pre.length]? =some d:=by rw [h1];simp
  have ea:q.arrows[pre.length - 1]? =some a:=by rw [h2,show pre.length - 1=ar.length by omega];simp
  have et:q.dots.take pre.length=pre:=by rw [h1];simp
  have hR:a.many=true→R[pre.length - 1]? =some (tr ks):=fun hm=>by
   have:=h5 0 (d,a,ks) rfl hm;rwa [show ar.length+0=pre.length - 1 by omega]at this
  have hp1:L.length*60*60 ^ r.length≤518400000:=by
   rw [k2i,Nat.pow_succ,Nat.mul_comm (60 ^ r.length) 60, ←Nat.mul_assoc]at h6;exact h6
  have hpos:1≤60 ^ r.length:=Nat.one_le_pow _ _ (by omega);have hL60:L.length*60≤518400000:=k2x (Nat.le_mul_of_pos_right _ (by omega)) hp1;have hfl:(L.flatMap (exts g pre d a ks)).length≤L.length*60:=u0v _ 60 L fun p _=>g1k g h40 h60 hri pre d a ks p;have hmf:=f1b (fun p:Rw=>alt p.1 p.2) (exts g pre d a ks) (EE g pre d (fun p x=>(e0s g a ks (p.1.getLast?.getD 0) x).map fun e=>alt p.1 p.2++ [e,x])) L fun p hp=>x1g (h4 p hp);have IH:=f2y n hn kr K R q hN g h40 h60 hlab hri r (pre++ [d]) (ar++ [a]) (L.flatMap (exts g pre d a ks)) (by rw [h1];simp) (by rw [h2];simp) (by simp;omega)
   (fun p hp=>by
    obtain⟨p0,hp0,hp⟩:=List.mem_flatMap.1 hp;rw [j2y,k2u];exact a2i (h4 p0 hp0) ea hp)
   (by intro j z hz hm;have:=h5 (j+1) z (by simpa using hz) hm;rw [j2y,k2u,show ar.length+1+j=ar.length+(j+1)by omega];exact this)
   (k2x (l2o _ hfl) hp1) m (by simp at hf;omega)
  refine⟨?_,IH.2⟩;have IH:=IH.1;rw [bfs, ←IH,a0a];generalize a0a (fun rc=>h0n n rc K kr) m=I;unfold h0n;dsimp only;rw [decide_eq_true (by omega),cond_true];have hs:=a2y n (by omega) (fun _=>none) (fun(v233,v234,v235,v236,o237,o238,o239,_)=>I (v233,v234,o239,v235,IntKind.wrap .i64 (v236+1),o237,o238,())) (q.dots.length:Int) R pre.length (by omega) d q ed (q.dots.length:Int) (pre.length:Int) g h40 h60 hlab
   (fun p x=>(e0s g a ks (p.1.getLast?.getD 0) x).map fun e=>alt p.1 p.2++ [e,x]) L (by omega) (fun p hp=>by
    have hr:=h4 p hp;have hg:=z1h hr;exact⟨hr.d,hg.1,by rw [hg.2.1];omega,fun x=> .inr ⟨by omega,a,ks,_,ea,hR,hg.2.2 (by omega),rfl⟩⟩) L [] rfl [] n (by omega) (by rw [et, ←hmf,k2v,List.length_nil,l2b];omega)
  rw [et]at hs;refine hs.trans ?_;dsimp only;rw [l2j,hmf,j2y,k2u,a0h (by omega) (by omega)];rfl
end Pure
namespace Pure
open Esp Ev Go
set_option linter.unusedSimpArgs false
set_option linter.unusedVariables false
theorem c1s{a b:List Int}(x y:Int):(a++x::b).set a.length y=a++y::b:=by
 rw [List.set_append_right _ _ (k2h _),m2t];rfl
theorem quo2(p:Nat)(hp:p≤1000):bquo .i64 ((2*p:Nat):Int) 2=(p:Int)∧bquo .i64 ((2*p:Nat)+1:Int) 2=(p:Int)∧(brem .i64 ((2*p:Nat):Int) 2==0)=true∧(brem .i64 ((2*p:Nat)+1:Int) 2==0)=false:=by
 refine⟨?_, ?_, ?_, ?_⟩
 ·unfold bquo
  rw [Int.tdiv_eq_ediv_of_nonneg (by omega),a0h (by omega) (by omega)];omega
 ·unfold bquo
  rw [Int.tdiv_eq_ediv_of_nonneg (by omega),a0h (by omega) (by omega)];omega
 ·unfold brem
  rw [Int.tmod_eq_emod_of_nonneg (by omega),beq_iff_eq];omega
 ·unfold brem
  rw [Int.tmod_eq_emod_of_nonneg (by omega),beq_eq_false_iff_ne];omega
theorem x1a{ρ:Type}(n:Nat)(kr:Unit→Option ρ)(K:Int×Y8×Int×Int×Y4×Y7×Y8×Y0×Unit→Option ρ)(part:List Y0)(b1 b2:Int)(q:Query)(g:Graph)(out:List Y0):
  ∀(ds2 es2 ds1 es1:List Int),ds2.length=es2.length+1→ds1.length=es1.length→ds1.length+ds2.length≤100→
   a0c (f0g n kr) K ((2*ds1.length:Nat):Int) (alt ds2 es2) (((ds1.length+ds2.length:Nat):Int),part,b1,b2,(q,()),(g,()),out,ds1++List.replicate ds2.length 0++(es1++List.replicate es2.length 0),())
    =K (((ds1.length+ds2.length:Nat):Int),part,b1,b2,(q,()),(g,()),out,ds1++ds2++(es1++es2),())
 | [],es2,ds1,es1,h1,h2,h3=>by simp at h1
 | [d], [],ds1,es1,h1,h2,h3=>by
  obtain⟨e1,e2,e3,e4⟩:=quo2 ds1.length (by omega);show a0c _ K _ [d] _=_;rw [a0c];unfold f0g;dsimp only;have hi:(ds1++List.replicate [d].length 0++(es1++List.replicate ([]:List Int).length 0))[ds1.length]? =some 0:=by simp
  rw [e3,cond_true,e1,a0k hi,j2r,Int.toNat_natCast,hi,j2r];have hs:(ds1++List.replicate [d].length 0++(es1++List.replicate ([]:List Int).length 0)).set ds1.length d=ds1++ [d]++(es1++ []):=by
   show(ds1++ [0]++(es1++ [])).set ds1.length d=_;rw [l2m,l2m];exact c1s 0 d
  rw [hs];rfl
 | d::d2::ds, [],ds1,es1,h1,h2,h3=>by simp at h1
 | d::ds,e::es,ds1,es1,h1,h2,h3=>by
  obtain⟨e1,e2,e3,e4⟩:=quo2 ds1.length (by simp at h3;omega);have ih:=x1a n kr K part b1 b2 q g out ds es (ds1++ [d]) (es1++ [e]) (by simpa using h1) (by simp [h2]) (by simp at h3⊢;omega);have el:(((ds1++ [d]).length+ds.length:Nat):Int)=((ds1.length+(d::ds).length:Nat):Int):=by simp;omega
  rw [el]at ih;show a0c _ K _ (d::e::alt ds es) _=_;rw [a0c];unfold f0g at ih⊢;dsimp only at ih⊢;have hi:(ds1++List.replicate (d::ds).length 0++(es1++List.replicate (e::es).length 0))[ds1.length]? =some 0:=by
   rw [l2m,m2a (k2h _),m2t];rfl
  rw [e3,cond_true,e1,a0k hi,j2r,Int.toNat_natCast,hi,j2r,a0c];dsimp only;have hs:(ds1++List.replicate (d::ds).length 0++(es1++List.replicate (e::es).length 0)).set ds1.length d=ds1++ [d]++List.replicate ds.length 0++(es1++List.replicate (e::es).length 0):=by
   rw [l2m];show(ds1++(0::(List.replicate ds.length 0++_))).set ds1.length d=_;rw [c1s];simp
  have hj:(ds1++ [d]++List.replicate ds.length 0++(es1++List.replicate (e::es).length 0))[ds1.length+(d::ds).length+ds1.length]? =some 0:=by
   have h4:ds1.length+(d::ds).length+ds1.length=(ds1++ [d]++List.replicate ds.length 0++es1).length:=by simp only [j2y,k2i,List.length_nil,List.length_replicate];omega
   rw [←l2m,h4,m2a (k2h _),m2t];rfl
  have hs2:(ds1++ [d]++List.replicate ds.length 0++(es1++List.replicate (e::es).length 0)).set (ds1.length+(d::ds).length+ds1.length) e=ds1++ [d]++List.replicate ds.length 0++(es1++ [e]++List.replicate es.length 0):=by
   have h4:ds1.length+(d::ds).length+ds1.length=(ds1++ [d]++List.replicate ds.length 0++es1).length:=by simp only [j2y,k2i,List.length_nil,List.length_replicate];omega
   rw [←l2m,h4];show(ds1++ [d]++List.replicate ds.length 0++es1++(0::List.replicate es.length 0)).set _ e=_;rw [c1s];simp
  rw [hs,e4,cond_false,e2,show((ds1.length+(d::ds).length:Nat):Int)+(ds1.length:Int)=((ds1.length+(d::ds).length+ds1.length:Nat):Int)by omega,a0h (by simp at h3⊢;omega) (by simp at h3⊢;omega),a0k hj,j2r,Int.toNat_natCast,hj,j2r,hs2];rw [show((2*ds1.length:Nat):Int)+1+1=((2*(ds1++ [d]).length:Nat):Int)by simp;omega];refine ih.trans ?_;simp
theorem w1o{ρ:Type}(n:Nat)(kr:Unit→Option ρ)(K:Int×Y0×Bool×Y8×Int×Int×Y4×Y7×Y8×Unit→Option ρ)(N:Int)(f:List Int)(part:List Y0)(b1 b2:Int)(q:Query)(g:Graph)(out:List Y0)(m:List Y2)(hb:q49z n (q,f,())=some (m,())):
  ∀(l:List Term) (i:Int) (b:Bool),(∀t∈l,q24z n (g,m,t,())=some (tval g m t,())∧Right (tval g m t) 1)→
   a0c (h0w n kr) K i l (N,f,b,part,b1,b2,(q,()),(g,()),out,())=K (N,f,b&&l.all (fun t=>stV (tval g m t)==1),part,b1,b2,(q,()),(g,()),out,())
 | [],i,b,h=>by rw [a0c,List.all_nil,m2m]
 | t::r,i,b,h=>by
  have ih:=fun b=>w1o n kr K N f part b1 b2 q g out m hb r (i+1) b fun x hx=>h x (l2c _ hx);rw [a0c,List.all_cons];unfold h0w at ih⊢;dsimp only at ih⊢;cases b with
  | false=>rw [cond_false,l2z];exact(ih false).trans (by rw [l2z])
  | true=>
   have h1:=h t (by simp);rw [cond_true,hb,j2r];dsimp only;rw [Term.eta2,h1.1,j2r];dsimp only;rw [Val.eta,e0k h1.2,j2r,l2e];exact ih _
theorem i2a(v:Val):(stV v==1)=((v.kind==1)&& (v.n==1)):=by
 unfold stV;cases v.kind==1<;>cases v.n==1<;>rfl
def rrK(n:Nat)(g:Graph)(kind:ByteArray):List Ev.Pair:=(((q35z n (g,kind,())).getD ([],())).1).map fun z=>z.1
theorem w1t(n:Nat)(hn:100≤n)(g:Graph)(kind:ByteArray)(hc:chkG g=0):q35z n (g,kind,())=some (tr (rrK n g kind),())∧ ∀k,k∈rrK n g kind↔Rc (stp kind g.edges) k.p k.q:=by
 obtain⟨ks,h1,h2,h3,h4⟩:=h1u n hn g kind hc;have e:rrK n g kind=ks:=by
  unfold rrK;rw [h4];show(tr ks).map _=ks;unfold tr;rw [List.map_map];exact List.map_id' ks
 rw [e];exact⟨h4,h2⟩
def rr(n:Nat)(g:Graph)(a:Ev.Arrow):List Ev.Pair:=bif a.many then rrK n g a.type else []
theorem e2v{ρ:Type}(n:Nat)(hn:100≤n)(q:Query)(g:Graph)(hc:chkG g=0)(kr:Unit→Option ρ)(K:Int×Y4×Y7×Y21×Unit→Option ρ)(N:Int):
  ∀(l:List Ev.Arrow) (i:Int) (o:List Y3),o.length+l.length≤1000→a0c (k0m n kr) K i l (N,(q,()),(g,()),o,())=K (N,(q,()),(g,()),o++l.map (fun a=>tr (rr n g a)),())
 | [],i,o,h=>by rw [a0c,m2f,k2y]
 | a::r,i,o,h=>by
  rw [k2i]at h;have ih:=fun z=>e2v n hn q g hc kr K N r (i+1) (o++ [z]) (by simp;omega);rw [a0c,k2l];unfold k0m at ih⊢;dsimp only at ih⊢;unfold rr at ih⊢;cases hm:a.many with
  | true=>
   rw [cond_true,(w1t n hn g a.type hc).1,j2r];dsimp only;rw [d0h (d0k (by simp;omega) (by omega)),ih (tr (rrK n g a.type)),l2m];rfl
  | false=>
   rw [cond_false,d0h (d0k (by simp;omega) (by omega)),ih [],l2m];rfl
theorem w1n{ρ:Type}(n:Nat)(hn:1000≤n)(kr:Unit→Option ρ)(K:Y8×Unit→Option ρ)(q:Query)(hN:q.dots.length≤100)(h1:1≤q.dots.length)(ha:q.arrows.length+1=q.dots.length)(g:Graph)(hw:q.wher.length≤1)(pass:List Int→Bool)
  (L:List Rw)(hL:L.length≤1000000000)(hr: ∀p∈L,p.1.length=q.dots.length∧p.2.length+1=q.dots.length∧(∃m,q49z n (q,p.1++p.2,())=some (m,())∧(∀t∈q.wher,q24z n (g,m,t,())=some (tval g m t,())∧Right (tval g m t) 1)∧q.wher.all (fun t=>stV (tval g m t)==1)=pass (p.1++p.2))):
  ∀(r pL:List Rw),L=pL++r→∀(out:List Y0) (fuel:Nat),r.length<fuel→out.length+r.length≤1000000000→
   a0a (fun rc=>f0n n rc K kr) fuel ((q.dots.length:Int),L.map (fun p=>alt p.1 p.2),((L.map (fun p=>alt p.1 p.2)).length:Int),(pL.length:Int),(q,()),(g,()),out,())=K (out++r.flatMap (fun p=>finF pass p.1 p.2),())
 | [],pL,hp,out,fuel,hf,hl=>by
  obtain⟨m,rfl⟩: ∃m,fuel=m+1:=⟨fuel - 1,by omega⟩;rw [a0a];unfold f0n;dsimp only;rw [decide_eq_false (by rw [hp];simp),cond_false,m2i,k2y]
 | x::r,pL,hp,out,fuel,hf,hl=>by
  obtain⟨m,rfl⟩: ∃m,fuel=m+1:=⟨fuel - 1,by omega⟩;have hx:L[pL.length]? =some x:=by rw [hp];simp
  have hlt:pL.length<L.length:=(k2a.1 hx).1;have hxm:(L.map (fun p=>alt p.1 p.2))[pL.length]? =some (alt x.1 x.2):=by rw [l2d,hx];rfl
  obtain⟨r1,r2,B,r3,r4,r5⟩:=hr x (by rw [hp];simp);rw [k2i]at hl;have IH:=fun out hl=>w1n n hn kr K q hN h1 ha g hw pass L hL hr r (pL++ [x]) (by rw [hp];simp) out m (by simp at hf;omega) hl;rw [j2y,k2u,Int.natCast_add]at IH;have hwr:IntKind.wrap .i64 ((pL.length:Int)+1)=(pL.length:Int)+((1:Nat):Int):=a0h (by omega) (by omega);have hal:=b1y x.1 x.2 (by omega);rw [k2n,a0a];generalize a0a (fun rc=>f0n n rc K kr) m=I at IH⊢;unfold f0n;dsimp only;rw [decide_eq_true (by rw [k2v];omega),cond_true,a0k hxm,j2r,a0h (x:=2*(q.dots.length:Int)) (by omega) (by omega),a0h (x:=2*(q.dots.length:Int) - 1) (by omega) (by omega)];unfold cnt?;rw [if_pos (by omega),j2r,show(2*(q.dots.length:Int) - 1).toNat=2*q.dots.length - 1 by omega,d0h (d0k (by omega) (by omega)),h1y n _ _ (alt x.1 x.2) n _ _ _ _ _ _ _ _ (by omega) (by omega)];have hfill:=x1a n (fun _=>none) (fun(v254,v255,v256,v257,o261,o262,o263,o264,_)=>(fun(v268,v269,v270,v271,o272,o273,o274,o275,_)=>
 a0a (fun rc301=>n0m n rc301 (fun(v292,v293,v294,v295,v296,v297,o298,o299,o300,_)=>
 (bif v294 then
 ck (room (o300++([v293]:List Y0)).length 24) (I (v292,v295,v296,IntKind.wrap .i64 (v297+1),o298,o299,o300++([v293]:List Y0),()))
 else I (v292,v295,v296,IntKind.wrap .i64 (v297+1),o298,o299,o300,()))) (fun(_)=>none)) (n) (v268,o275,true,v269,v270,v271,o272.1.wher,(o272.1.wher.length:Int),0,o272,o273,o274,())) (v254,v255,v256,v257,o261,o262,o263,o264,())) (L.map (fun p=>alt p.1 p.2)) ((L.map (fun p=>alt p.1 p.2)).length:Int) (pL.length:Int) q g out x.1 x.2 [] [] (by omega) rfl (by simp;omega)
  have e0:(([]:List Int)++List.replicate x.1.length 0++([]++List.replicate x.2.length 0))=List.replicate (2*q.dots.length - 1) (0:Int):=by
   rw [l2j,l2j,List.replicate_append_replicate];congr 1;omega
  rw [e0,l2j,l2j,List.length_nil,l2b,r1]at hfill;refine hfill.trans ?_;dsimp only;rw [i1s n _ _ q.wher n _ _ _ _ _ _ _ _ _ (by omega) (by omega)];refine(w1o n _ _ _ _ _ _ _ q g out B r3 q.wher 0 true r4).trans ?_;dsimp only;rw [l2e,r5];unfold finF;cases pass (x.1++x.2)with
  | true=>
   rw [cond_true,cond_true,d0h (o1b (by simp;omega)),hwr, ←l2m];exact IH _ (by simp;omega)
  | false=>
   rw [cond_false,cond_false,hwr,l2j];exact IH _ (by omega)
end Pure
namespace Pure
open Esp Ev Go
set_option linter.unusedSimpArgs false
set_option linter.unusedVariables false
theorem n1n{l:List Edg}{t:Int}(h:t∈l.map Edg.id):(c0m l t).isSome=true:=by
 obtain⟨x,hx,rfl⟩:=k2s.1 h;unfold c0m;rw [List.find?_isSome];exact⟨x,hx,by simp⟩
theorem d2x: ∀(l:List Ev.Dot) (s:List Int) (m:List Y2),(∀x∈s,wfI .i64 x)→atOk m→atOk (bD l s m)
 | [],s,m,hs,h=>by cases s<;>exact h
 | d::r, [],m,hs,h=>h
 | d::r,y::s,m,hs,h=>by
  rw [bD];exact d2x r s _ (fun x hx=>hs x (l2c _ hx)) (s0o (hs y (by simp)) h)
def u1g(q:Query)(g:Graph)(f:List Int):Prop:=AOk g f∧f.length=2*q.dots.length - 1∧∀(j:Nat) a e,q.arrows[j]? =some a→(f.drop q.dots.length)[j]? =some e→seq a.name ⟨#[]⟩=false→(c0m g.edges e).isSome=true
theorem u1k{q:Query}{g:Graph}(h1:1≤q.dots.length)(hal:q.arrows.length+1=q.dots.length)(ha:q.arrows.all arB=true){p:Rw}(h:RowOk g q q.dots.length p):u1g q g (p.1++p.2):=by
 have hd:=h.d;have he:=h.e;have hdr:(p.1++p.2).drop q.dots.length=p.2:=by rw [←hd,List.drop_left]
 refine⟨fun x hx=> ?_,by rw [j2y];omega,fun j a e h3 h4 h5=> ?_⟩
 ·rcases l2v.1 hx with hx | hx
  ·exact .inl (h.dn x hx)
  ·obtain⟨j,hj,rfl⟩:=List.mem_iff_getElem.1 hx
   have hja:j<q.arrows.length:=by omega
   rcases h.en j q.arrows[j] p.2[j] (j2x hja) (j2x hj)with h | h
   ·exact .inr (.inl h)
   ·exact .inr (.inr h.2)
 ·rw [hdr]at h4
  rcases h.en j a e h3 h4 with h | h
  ·exact n1n h
  ·have h6:=k2f.1 ha a (List.mem_of_getElem? h3)
   unfold arB at h6;rw [h5,k2m,h.1]at h6;simp at h6
theorem w1h{α:Type}{p r:α→Bool}: ∀l:List α,(∀x∈l,p x=r x)→l.all p=l.all r
 | [],_=>rfl
 | x::l,h=>by rw [List.all_cons,List.all_cons,h x (by simp),w1h l fun y hy=>h y (l2c _ hy)]
theorem r0q{q:Query}{g:Graph}(hg:GOk g){b:List Y6}(hb:nmA q.arrows (nmD q.dots [])=some b)(ht: ∀t∈q.wher,tOk t)(hc: ∀t∈q.wher,tchk b t 1=0)(h5:q.dots.length≤100)(ha:q.arrows.length+1=q.dots.length){f:List Int}(hf:u1g q g f):
  (∃N,∀n,N≤n→∀t∈q.wher,q24z n (g,bndF q f,t,())=some (tval g (bndF q f) t,()))∧(∀t∈q.wher,Right (tval g (bndF q f) t) 1)∧((∀y∈f.take q.dots.length,y≠0)→q.wher.all (fun t=>stV (tval g (bndF q f) t)==1)=e0u q g f):=by
 have hwf: ∀x∈f,wfI .i64 x:=by
  intro x hx;rcases hf.1 x hx with h | h | h
  ·obtain⟨y,hy,rfl⟩:=k2s.1 h
   exact(hg.ok.1.2 y hy).1
  ·obtain⟨y,hy,rfl⟩:=k2s.1 h
   exact(hg.ok.2.1.2 y hy).1
  ·rw [h];unfold wfI;decide
 have hat:atOk (bndF q f):=c1g _ _ _ (fun x hx=>hwf x (List.mem_of_mem_drop hx)) (d2x _ _ _ hwf (fun p hp=>by cases hp));have hn0:=w1l q.dots [] ⟨rfl,fun _=>rfl⟩;have hEB:EB g b (bndF q f):=EB_A g q.arrows (f.drop q.dots.length) _ b _ (by rw [k2t,hf.2.1];omega) hf.2.2 (fun s hs=>by rw [hn0.2 s]at hs;cases hs) hb;refine⟨c1n q.wher fun t h=>m1i hg hat hEB t 1 (ht t h) (hc t h),fun t h=>(t0f hg hat b t 1 (ht t h) (hc t h)).2,fun hne=> ?_⟩;unfold e0u;have hno:=o1i q.arrows _ b hn0.1 hb;have hag:AG (bndF q f) (q0g q g f).at_:=ag_A _ _ _ _ (ag_D _ _ _ _ hne fun _ _=>rfl);refine w1h _ fun t h=> ?_;rw [i2a,i1f g (b:=b) (fun s hs=>hag s (by
  cases he:seq s ⟨#[]⟩with
  | false=>rfl
  | true=>rw [(a0b _ _).1 he,hno]at hs;cases hs)) t 1 (hc t h)]
theorem r0o(g:Graph)(fin:List Int→List Int→List Y0)(f1 f2:Ev.Arrow→List Ev.Pair)(h: ∀a k,k∈f1 a↔k∈f2 a): ∀(l:List (Ev.Dot×Ev.Arrow)) (pre:List Ev.Dot) (ds es:List Int),
  g0g g fin (l.map fun z=>(z.1,z.2,f1 z.2)) pre ds es=g0g g fin (l.map fun z=>(z.1,z.2,f2 z.2)) pre ds es
 | [],pre,ds,es=>rfl
 | (d,a)::r,pre,ds,es=>by
  rw [k2l,k2l,g0g,g0g];congr 1;funext x;rw [p0w g a _ _ (h a)];cases dotB d x&&fitL pre ds d.name x.id with
  | false=>rfl
  | true=>
   rw [cond_true,cond_true];congr 1;funext e;exact r0o g fin f1 f2 h r _ _ _
theorem f1r{q:Query}{g:Graph}{d:Ev.Dot}:(bfs0 g d).map (fun p=>alt p.1 p.2)=EE g [] d (fun _ x=> [[x]]) ([], []):=by
 unfold bfs0 EE;rw [List.map_flatMap];congr 1;funext x;cases dotB d x&&fitL [] [] d.name x.id<;>rfl
theorem x1x{q:Query}{g:Graph}(hg:GOk g)(hq:chkQ q=0)(ht: ∀t∈q.wher,tOk t): ∃N,∀n,N≤n→q59z n (q,g,())=some (g0h ltLL (f0e n q g (e0u q g)),decide ((f0e n q g (e0u q g)).length≤2000),()):=by
 obtain⟨⟨h1,h5⟩,hw,ha,_,har,b,hb,htc⟩:=n1q hq;obtain⟨h40,h60,hnod,_⟩:=f0c hg.cg;have hri:=hg.riseN.1;have hlab: ∀x∈g.nodes,x.labels.length≤100:=by
  intro x hx;have:=(f1y hnod x hx).1;unfold labE at this;cases hb:decide ((x.labels.length:Int) >4)with
  | true=>rw [hb]at this;cases this
  | false=>have:=of_decide_eq_false hb;omega
 obtain⟨d,dr,hd⟩: ∃d r,q.dots=d::r:=by
  cases hq:q.dots with
  | nil=>rw [hq]at h1;simp at h1
  | cons d r=>exact⟨d,r,rfl⟩
 have hlr:dr.length=q.arrows.length:=by rw [hd]at ha;simp at ha;omega
 have hz:=z0i dr q.arrows hlr;obtain⟨N1,hN1⟩:=c1n (p:=fun n (f:List Int)=>u1g q g f→∀t∈q.wher,q24z n (g,bndF q f,t,())=some (tval g (bndF q f) t,()))
  (allF (g.nodes.map Ev.Node.id++(g.edges.map Ev.Edg.id++ [0])) (2*q.dots.length - 1)) (fun f _=>by
   by_cases hf:u1g q g f
   ·obtain⟨N,h⟩:=(r0q hg hb ht htc (by omega) ha hf).1
    exact⟨N,fun n hn _=>h n hn⟩
   ·exact⟨0,fun n _ h=>absurd h hf⟩)
 refine⟨N1+1000100200,fun n hn=> ?_⟩;have hn1:N1≤n:=k2x (Nat.le_add_right _ _) hn;have hn2:1000100200≤n:=k2x (m2r _ _) hn;clear hn
 -- the levels
 generalize hrem:(dr.zip q.arrows).map (fun z=>(z.1,z.2,rr n g z.2))=rem;have hr1:rem.map (fun z=>z.1)=dr:=by rw [←hrem,List.map_map];exact hz.1
 have hr2:rem.map (fun z=>z.2.1)=q.arrows:=by rw [←hrem,List.map_map];exact hz.2
 have hrl:rem.length=dr.length:=by rw [←k2v (f:=fun z=>z.1),hr1]
 have hrow0: ∀p∈bfs0 g d,RowOk g q [d].length p:=by
  intro p hp;unfold bfs0 at hp;obtain⟨x,hx,hp⟩:=List.mem_flatMap.1 hp;cases hc:dotB d x&&fitL [] [] d.name x.id with
  | false=>rw [hc]at hp;cases hp
  | true=>
   rw [hc,cond_true,l2r]at hp;subst hp;exact⟨rfl,rfl,fun y hy=>by rw [l2r]at hy;subst hy;exact k2s.2 ⟨x,hx,rfl⟩,fun j a e _ h=>by simp at h⟩
 have hl0:(bfs0 g d).length≤40:=by
  unfold bfs0;refine k2x (e0j _ (fun x=> ?_) g.nodes) h40;cases dotB d x&&fitL [] [] d.name x.id<;>simp
 have hbound:(bfs0 g d).length*60 ^ rem.length≤518400000:=by
  have h4:rem.length≤4:=by rw [hrl];rw [hd]at h5;simp at h5;omega
  have:60 ^ rem.length≤60 ^ 4:=Nat.pow_le_pow_right (by omega) h4;exact k2x (Nat.mul_le_mul hl0 this) (by decide)
 have key:=fun K=>f2y (ρ:=List Y0×Bool×Unit) n (by omega) (fun _=>none) K (q.arrows.map (fun a=>tr (rr n g a))) q (by omega) g h40 h60 hlab hri rem [d] [] (bfs0 g d) (by rw [hr1,hd];rfl) (by rw [hr2];rfl) rfl hrow0
  (fun j z hz hm=>by
   rw [List.length_nil,l2b];have e:=congrArg (fun l=>l[j]?) hr2;rw [l2d,hz]at e;rw [l2d, ←e];show some (tr (rr n g z.2.1))=some (tr z.2.2);have:z∈rem:=List.mem_of_getElem? hz;rw [←hrem]at this;obtain⟨y,_,rfl⟩:=k2s.1 this;rfl) hbound (n - 1) (by rw [hrl];rw [hd]at h5;simp at h5;omega)
 have hblen:(bfs g rem [d] (bfs0 g d)).length≤518400000:=by
  have: ∀(rem:List Y15) (pre:List Ev.Dot) (L:List Rw),(bfs g rem pre L).length≤L.length*60 ^ rem.length:=by
   intro rem
   induction rem with
   | nil=>intro pre L;rw [bfs];simp
   | cons z r ih=>
    intro pre L;obtain⟨d,a,ks⟩:=z;rw [bfs];refine k2x (ih _ _) ?_;rw [k2i,Nat.pow_succ,Nat.mul_comm (60 ^ r.length) 60, ←Nat.mul_assoc];exact l2o _ (u0v _ 60 L fun p _=>g1k g h40 h60 hri pre d a ks p)
  exact k2x (this _ _ _) hbound
 generalize hL:bfs g rem [d] (bfs0 g d)=L at key hblen;have hrows:=(key fun _=>none).2;have hW:L.flatMap (fun p=>finF (e0u q g) p.1 p.2)=f0e n q g (e0u q g):=by
  rw [←hL, ←r1k, ←hrem];unfold f0e;rw [hd];dsimp only;unfold p0m p0f;congr 1;funext x;cases dotB d x&&fitL [] [] d.name x.id with
  | false=>rfl
  | true=>
   rw [cond_true,cond_true];refine r0o g _ (rr n g) (rk n g) (fun a k=> ?_) _ _ _ _;unfold rr rk;cases a.many with
   | false=>exact Iff.rfl
   | true=>rw [cond_true,cond_true,(w1t n (by omega) g a.type hg.cg).2,(l1i n (by omega) g a.type hg.cg).2]
 have hpos:=(g0k hnod).1;have h12:=fun K=>w1n (ρ:=List Y0×Bool×Unit) n (by omega) (fun _=>none) K q (by omega) h1 ha g hw (e0u q g) L (by omega) (fun p hp=>by
  have hro:=hrows p hp;have hgo:=u1k h1 ha har hro;obtain⟨_,hR,hP⟩:=r0q hg hb ht htc (by omega) ha hgo;have hm:=u0h (g.nodes.map Ev.Node.id++(g.edges.map Ev.Edg.id++ [0])) (p.1++p.2) fun x hx=>by
   rcases hgo.1 x hx with h | h | h
   ·exact List.mem_append_left _ h
   ·exact List.mem_append_right _ (List.mem_append_left _ h)
   ·rw [h];simp
  rw [hgo.2.1]at hm;refine⟨hro.d,hro.e,bndF q (p.1++p.2),v1b q _ (by omega) ha hgo.2.1 n (by omega),fun t h=>⟨hN1 n hn1 _ hm hgo t h,hR t h⟩,hP fun y hy=> ?_⟩;have hpd:=hro.d;rw [←hpd,List.take_left]at hy;obtain⟨x,hx,rfl⟩:=k2s.1 (hro.dn y hy);have:=hpos x hx;omega) L [] rfl [] n (by omega) (by simp;omega)
 unfold q59z;dsimp only;rw [p1a n _ _ q.arrows n _ _ _ _ (by omega) (by omega)];refine(e2v n (by omega) q g hg.cg _ _ _ q.arrows 0 [] (by simp;omega)).trans ?_;dsimp only;rw [l2j];obtain⟨n',rfl⟩: ∃n',n=n' +1:=⟨n - 1,by omega⟩;rw [a0a];unfold h0n;dsimp only;rw [decide_eq_true (by omega),cond_true];have hs:=a2y (ρ:=List Y0×Bool×Unit) (n' +1) (by omega) (fun _=>none) (fun(v233,v234,v235,v236,o237,o238,o239,_)=>a0a (fun rc306=>h0n (n' +1) rc306 (fun(v241,v242,o243,o244,_)=>
 a0a (fun rc305=>f0n (n' +1) rc305 (fun(o303,_)=>
 (sfLL (o303,())).bind fun(o304,_)=>some (o304,decide (((o304.length:Int):Int)≤2000),())) (fun(_)=>none)) (n' +1) (v241,v242,(v242.length:Int),0,o243,o244,([]:List Y0),())) (fun(_)=>none)) n' (v233,v234,o239,v235,IntKind.wrap .i64 (v236+1),o237,o238,())) (q.dots.length:Int) (q.arrows.map (fun a=>tr (rr (n' +1) g a))) 0 (by omega) d q (by rw [hd];rfl) (q.dots.length:Int) 0 g h40 h60 hlab
  (fun _ x=> [[x]]) [([], [])] (by simp) (fun p hp=>by
   rw [l2r]at hp;subst hp;exact⟨rfl,fun i hi=>by simp at hi,by show(0:Nat)≤390;omega,fun x=> .inl ⟨rfl,rfl⟩⟩) [([], [])] [] rfl [] (n' +1) (by simp;omega) (by
   rw [k2n,m2i,k2y,List.take_zero, ←f1r (q:=q),k2v,List.length_nil,l2b];omega)
 refine hs.trans ?_;dsimp only;rw [k2n,m2i,k2y,l2j,List.take_zero, ←f1r (q:=q)];refine((key _).1).trans ?_;dsimp only;refine((h12 _)).trans ?_;dsimp only;rw [l2j,hW];have hwl:(f0e (n' +1) q g (e0u q g)).length≤518400000:=by
  rw [←hW];refine k2x (e0j _ (fun p=> ?_) L) hblen;unfold finF;cases e0u q g (p.1++p.2)<;>simp
 have hws: ∀w∈f0e (n' +1) q g (e0u q g),w.length≤1000000:=by
  rw [←hW];intro w hw;obtain⟨p,hp,hw⟩:=List.mem_flatMap.1 hw;unfold finF at hw;have hro:=hrows p hp;have h6:=hro.d;have h7:=hro.e;cases hpf:e0u q g (p.1++p.2)with
  | false=>rw [hpf]at hw;cases hw
  | true=>
   rw [hpf,cond_true,l2r]at hw;rw [hw,j2y];omega
 unfold sfLL;dsimp only;rw [show(Nat.ble (f0e (n' +1) q g (e0u q g)).length 4000000000000000000&& (f0e (n' +1) q g (e0u q g)).all fun x=>Nat.ble x.length 1000000)=true by
  rw [j2s,k2f];exact⟨k2k (by omega),fun w hw=>k2k (hws w hw)⟩,cond_true,j2r]
 dsimp only;have hsl:(g0h ltLL (f0e (n' +1) q g (e0u q g))).length=(f0e (n' +1) q g (e0u q g)).length:=(e0z ltLL _).length_eq;rw [hsl];congr 3;rw [decide_eq_decide];omega
theorem d2i(l:List Y0)(n:Nat)(hl:l.length≤2000)(hw: ∀w∈l,w.length≤1000)(hn:3000≤n):q3z n (l,l,())=some (true,()):=by
 unfold q3z;dsimp only;rw [bne_self_eq_false,cond_false,v1m n _ _ l n _ (by omega) (by omega)];have key: ∀(r p:List Y0),l=p++r→a0c (t0b n (fun(v10,_)=>some (v10,()))) (fun(_,_)=>(some (true,()):Option Y13)) (p.length:Int) r (l,())=some (true,()):=by
  intro r
  induction r with
  | nil=>intro p hp;rfl
  | cons x r ih=>
   intro p hp;have hx:l[p.length]? =some x:=by rw [hp];simp
   have ih:=ih (p++ [x]) (by rw [hp];simp);rw [j2y,k2u,Int.natCast_add]at ih;rw [a0c];unfold t0b at ih⊢;dsimp only;rw [a0k hx,j2r,p1p x n (hw x (List.mem_of_getElem? hx)) (by have:=hw x (List.mem_of_getElem? hx);omega),j2r];exact ih
 exact key l [] rfl
theorem c1l{q:Query}{g:Graph}(hg:gOk g)(ht: ∀t∈q.wher,tOk t)(hal:q.arrows.length≤maxLen): ∃N,∀n,N≤n→q27z n (q,g,())=some (true,()):=by
 obtain⟨N1,hm⟩:=h1f;have hal:q.arrows.length≤9223372036854775807:=hal;have both: ∀n,400≤n→q21z n (q,g,())=some (bif chkQ q !=0 then chkQ q else chkG g,()):=by
  intro n hn;obtain⟨B,hB⟩:=h2c q n hn hal;unfold q21z;dsimp only;rw [hB,j2r];dsimp only;cases h:(chkQ q !=0)with
  | true=>rw [cond_true,cond_true]
  | false=>rw [cond_false,cond_false,i1w g n (by omega),j2r]
 have early: ∀n,N1+400≤n→∀e:Int,d0g n (q,g,())=some ([],e,())→e=(bif chkQ q !=0 then chkQ q else chkG g)→e≠0→q27z n (q,g,())=some (true,()):=by
  intro n hn e he h h0;have hn1:N1≤n:=k2x (Nat.le_add_right _ _) hn;have hn2:400≤n:=k2x (m2r _ _) hn;clear hn;unfold q27z;dsimp only;rw [he,j2r];dsimp only;rw [both n hn2, ←h,j2r];dsimp only;rw [hm n hn1,j2r];dsimp only;rw [show(e !=0)=true by simpa [bne]using h0,l2q,cond_true,j2r];dsimp only;rw [beq_self_eq_true];rfl
 by_cases hq:chkQ q=0
 ·by_cases hc:chkG g=0
  ·obtain⟨⟨h1,h5⟩,hw,ha,_,_,b,_,htc⟩:=n1q hq
   obtain⟨N0,h0,hp⟩:=p1o ⟨hg,hc⟩ b ht htc hw (by omega) ha;obtain⟨N2,hW⟩:=x1x ⟨hg,hc⟩ hq ht;refine⟨N1+((N0+110000)+N2),fun n hn=> ?_⟩;have hn1:N1≤n:=k2x (Nat.le_add_right _ _) hn;have hn' :(N0+110000)+N2≤n:=k2x (m2r _ _) hn;have hn0:N0+110000≤n:=k2x (Nat.le_add_right _ _) hn';have hn2:N2≤n:=k2x (m2r _ _) hn';have hn4:5000≤n:=k2x (k2x (by decide) (m2r _ _)) hn0;clear hn hn';have em:=o0q q g hc (e0u q g) N0 h0 hp (by omega) h1 ha n hn0 (by rw [j0q q n (by omega),hq]);have eW:=hW n hn2;unfold q27z;dsimp only;cases hle:decide ((f0e n q g (e0u q g)).length≤2000)with
   | false=>
    rw [hle,cond_false]at em;rw [hle]at eW;rw [em,j2r];dsimp only;rw [both n (by omega),hq,hc,j2r];dsimp only;rw [hm n hn1,j2r];dsimp only;rw [show((!true) || ((bif ((0:Int) !=0)then(0:Int)else 0) !=0))=false from rfl,cond_false,eW,j2r]
    rfl
   | true=>
    rw [hle,cond_true]at em;rw [hle]at eW;have hle:=of_decide_eq_true hle;rw [em,j2r];dsimp only;rw [both n (by omega),hq,hc,j2r];dsimp only;rw [hm n hn1,j2r];dsimp only;rw [show((!true) || ((bif ((0:Int) !=0)then(0:Int)else 0) !=0))=false from rfl,cond_false,eW,j2r]
    dsimp only;rw [k2e,cond_false,show((0:Int)==0)=true from rfl,cond_true,d2i _ n (by rw [(e0z ltLL _).length_eq];exact hle) (fun w hw=> ?_) (by omega),j2r]
    have hw:=(e0z ltLL _).mem_iff.1 hw;unfold f0e at hw;obtain⟨d,r,hd⟩: ∃d r,q.dots=d::r:=by
     cases hq:q.dots with
     | nil=>rw [hq]at h1;simp at h1
     | cons d r=>exact⟨d,r,rfl⟩
    rw [hd]at hw;have:=y0a g _ d _ w hw;rw [this];unfold p0f;rw [k2v,List.length_zip];rw [hd]at h5;simp at h5;omega
  ·refine⟨N1+400,fun n hn=> ?_⟩
   have hn2:400≤n:=k2x (m2r _ _) hn;refine early n hn (chkG g) ?_ (by rw [hq];rfl) hc;unfold d0g;dsimp only;rw [b0t,j0q q n (by omega),j2r,hq];dsimp only;rw [show((0:Int) !=0)=false from rfl,cond_false,b0v,v0k g n (by omega),j2r]
   dsimp only;rw [show(chkG g !=0)=true by simpa [bne]using hc,cond_true]
 ·refine⟨N1+400,fun n hn=> ?_⟩
  have hn2:400≤n:=k2x (m2r _ _) hn;have hqb:(chkQ q !=0)=true:=by simpa [bne]using hq
  refine early n hn (chkQ q) ?_ (by rw [hqb];rfl) hq;unfold d0g;dsimp only;rw [b0t,j0q q n (by omega),j2r];dsimp only;rw [hqb,cond_true]
end Pure

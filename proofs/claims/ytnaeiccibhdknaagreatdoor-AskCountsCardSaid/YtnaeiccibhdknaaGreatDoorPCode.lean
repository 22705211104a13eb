import Derived.Test.YtnaeiccibhdknaaGreatDoorPNext
set_option linter.unusedSimpArgs false
set_option linter.unusedVariables false
noncomputable section
namespace Pure
open Esp Ev Go
abbrev Y0:Type:=Query×Graph×(List (List (Ev.Pair×Bool)))×Unit
abbrev Y1:Type:=Bt×Int×Bt×Int×Unit
abbrev Y2:Type:=List Int
abbrev Y3:Type:=List Cnt
abbrev Y4:Type:=Query×Unit
abbrev Y5:Type:=Int×Unit
abbrev Y6:Type:=Val×Unit
abbrev Y7:Type:=List (Ev.Pair×Bool)
abbrev Y8:Type:=Term×Y1×Unit
abbrev Y9:Type:=List Val
abbrev Y10:Type:=List (Bt×Bool)
abbrev Y11:Type:=Bool×Unit
abbrev Y12:Type:=Term×Unit
abbrev Y13:Type:=Y0×Y2×Y5×Unit×Y3×Y4×Unit×Unit
abbrev Y14:Type:=Y0×Y2×Unit×(List Y2)×Y11×Unit
abbrev Y15:Type:=List Bt
abbrev Y16:Type:=Ev.Dot×Ev.Arrow×List Ev.Pair
abbrev Y17:Type:=List Ev.Node
abbrev Y18:Type:=(Envr×Unit)×(List (Bt×Int))×Y0×Y2×Unit
abbrev Y19:Type:=List (Bt×Y3)
abbrev Y20:Type:=Int×Int×Unit
abbrev Y21:Type:=Bt×Bool
abbrev Y22:Type:=Y3×Unit
abbrev Y23:Type:=Int×Int×Int×Int×Y17×Int×Int×(Ev.Arrow×Unit)×Y0×Y5×Unit×Y3×Y4×Unit×Y2×Unit
abbrev Y24:Type:=Int×Int×Int×Int×Y17×Int×Int×(Ev.Arrow×Unit)×Y0×Unit×(List Y2)×Y11×Y2×Unit
abbrev Y25:Type:=Envr×Unit
abbrev Y26:Type:=Int×Int×Bt×Unit
abbrev Y27:Type:=Bt×Int
abbrev Y28:Type:=List Ev.Arrow
abbrev Y29:Type:=Graph×Unit
abbrev Y30:Type:=List Y2
abbrev Y31:Type:=List Ev.Item
abbrev Y32:Type:=Y2×Y2×Y19×Bt×Int×Y15×Int×Int×Y2×Int×Int×Y4×Y3×Y3×Y9×Unit
abbrev Y33:Type:=List Term
abbrev Y34:Type:=Y29×(Query×Graph×Unit)×(List Y7)×Unit
abbrev Y35:Type:=List Ev.Dot
abbrev Y36:Type:=Int×Bool×Unit
abbrev Y37:Type:=List (Bt×List Cnt)
abbrev Y38:Type:=Y2×Y2×Y19×Bt×Y3×Y15×Int×Int×Y4×Y3×Y9×Unit
abbrev Y39:Type:=Bt×Int×Y6×Y6×Y20×Unit
abbrev Y40:Type:=List (Int×Y2)
abbrev Y41:Type:=Y3×Int×Y3×Int×Int×(Cnt×Unit)×Unit
abbrev Y42:Type:=List Prp
abbrev Y43:Type:=List Edg
abbrev Y44:Type:=Y2×Unit
def m1d{ρ:Type}(n:Nat)(kr:Bool×Unit->Option ρ):Int->Int->Unit->(Unit->Option ρ)->Option ρ:=
 λb a (_) rec=>
 (bif (!((((decide ((a:Int) >=97))&& (decide ((a:Int)<=122))) || ((decide ((a:Int) >=65))&& (decide ((a:Int)<=90)))) || ((a:Int)==95)))&& ((((b:Int)==0) || (decide ((a:Int)<48))) || (decide ((a:Int) >57)))then kr (false,())
 else rec (()))
def i1o{ρ:Type}(n:Nat)(rec:Bt×Int×Int×Unit->Option ρ)(kx:Unit->Option ρ)(kr:Bool×Unit->Option ρ):Bt×Int×Int×Unit->Option ρ:=
 λ(b,c,a,_)=>
 (bif decide ((a:Int)<c)then
 (sat b a).bind λd=>m1d n kr a d (()) (λ(_)=>rec (b,c,wI (a+1),()))
 else kx (()))
def j0a(n:Nat):Bt×Unit->Option Y11:=
 λ(a,_)=>
 (bif (seq a zb0) || (decide (((a.size:Int):Int) >12))then some (false,())
 else
 a0a (λb=>i1o n b (λ(_)=>some (true,())) (λ(c,_)=>some (c,()))) (n) (a,(a.size:Int),0,()))
def t1w{ρ:Type}(n:Nat)(rec:Y15×Bt×Int×Int×Unit->Option ρ)(kx:Unit->Option ρ)(kr:Int×Unit->Option ρ):Y15×Bt×Int×Int×Unit->Option ρ:=
 λ(b,c,d,a,_)=>
 (bif decide ((a:Int)<d)then
 (ix b a).bind λe=>
 (bif seq c e then kr (a,())
 else rec (b,c,d,wI (a+1),()))
 else kx (()))
def q27z(n:Nat):Y15×Bt×Unit->Option Y5:=
 λ(a,b,_)=>
 a0a (λc=>t1w n c (λ(_)=>some ((-1),())) (λ(d,_)=>some (d,()))) (n) (a,b,(a.length:Int),0,())
def q26z(n:Nat):Y15×Bt×Unit->Option Y11:=
 λ(a,b,_)=>
 (q27z n (a,b,())).bind λ(c,_)=>some (decide ((c:Int) >=0),())
def q82z(n:Nat):Bt×Unit->Option Y11:=
 λ(a,_)=>
 (q26z n (([(⟨#[109,97,116,99,104]⟩:Bt),(⟨#[119,104,101,114,101]⟩:Bt),zb27,zb28,(⟨#[97,115]⟩:Bt),zb12,zb13,zb7,zb18,zb25,zb4,zb26,zb29,zb14,zb24,zb21,zb22,zb8,zb9,zb10,zb5,zb6]:List Bt),a,())).bind λ(b,_)=>some (b,())
def f0u(n:Nat):Bt×Unit->Option Y11:=
 λ(a,_)=>
 (j0a n (a,())).bind λ(b,_)=>
 (bif b then
 (q82z n (a,())).bind λ(c,_)=>some (!c,())
 else some (false,()))
def s0x{ρ:Type}(n:Nat)(kr:Unit->Option ρ):Int->Ev.Dot->(Y4×Y10×Unit)->((Y4×Y10×Unit)->Option ρ)->Option ρ:=
 λd c (a,b,_) rec=>
 (bif !(seq c.name zb0)then rec (a,b0d .str .bool b c.name false,())
 else rec (a,b,()))
def g1x{ρ:Type}(n:Nat)(rec:Y35×Int×Int×Y4×Y10×Unit->Option ρ)(kx:Y4×Y10×Unit->Option ρ)(kr:Unit->Option ρ):Y35×Int×Int×Y4×Y10×Unit->Option ρ:=
 λ(d,e,a,b,c,_)=>
 (bif decide ((a:Int)<e)then
 (ix d a).bind λf=>
 (bif !(seq f.name zb0)then rec (d,e,wI (a+1),b,b0d .str .bool c f.name false,())
 else rec (d,e,wI (a+1),b,c,()))
 else kx (b,c,()))
def m0o{ρ:Type}(n:Nat)(kr:Y10×Int×Unit->Option ρ):Int->Ev.Arrow->(Y10×Unit)->((Y10×Unit)->Option ρ)->Option ρ:=
 λc b (a,_) rec=>
 (bif seq b.name zb0 then rec (a,())
 else
 (bif (f0a .str .bool a b.name)then kr (([]:List Y21),7,())
 else rec (b0d .str .bool a b.name true,())))
def h1r{ρ:Type}(n:Nat)(rec:Y28×Int×Int×Y10×Unit->Option ρ)(kx:Y10×Unit->Option ρ)(kr:Y10×Int×Unit->Option ρ):Y28×Int×Int×Y10×Unit->Option ρ:=
 λ(c,d,a,b,_)=>
 (bif decide ((a:Int)<d)then
 (ix c a).bind λf=>m0o n kr a f (b,()) (λ(e,_)=>rec (c,d,wI (a+1),e,()))
 else kx (b,()))
theorem x1d{ρ:Type}(n:Nat)(kx:Y4×Y10×Unit->Option ρ)(kr:Unit->Option ρ)(l:List Ev.Dot)(fuel:Nat)(a:Query×Unit)(b:List Y21)(hl:l.length<=9223372036854775807)(hf:l.length<fuel):
  a0a (λrc=>g1x n rc kx kr) fuel (l,(l.length:Int),0,a,b,())=a0b (s0x n kr) (λ(a,b,_)=>kx (a,b,())) 0 l (a,b,()):=
 a0c l (λi (a,b,_)=>(l,(l.length:Int),i,a,b,())) _ _ _ (λrec i s=>rfl) hl fuel (a,b,()) hf
theorem w1g{ρ:Type}(n:Nat)(kx:Y10×Unit->Option ρ)(kr:Y10×Int×Unit->Option ρ)(l:List Ev.Arrow)(fuel:Nat)(a:List Y21)(hl:l.length<=9223372036854775807)(hf:l.length<fuel):
  a0a (λrc=>h1r n rc kx kr) fuel (l,(l.length:Int),0,a,())=a0b (m0o n kr) (λ(a,_)=>kx (a,())) 0 l (a,()):=
 a0c l (λi (a,_)=>(l,(l.length:Int),i,a,())) _ _ _ (λrec i s=>rfl) hl fuel (a,()) hf
def q99z(n:Nat):Query×Unit->Option (Y10×Int×Unit):=
 λ(a,_)=>
 a0a (λf=>g1x n f (λ(b,d,_)=>
 a0a (λe=>h1r n e (λ(c,_)=>some (c,0,())) (λ(g,h,_)=>some (g,h,()))) (n) (b.1.arrows,(b.1.arrows.length:Int),0,d,())) (λ(_)=>none)) (n) (a.dots,(a.dots.length:Int),0,(a,()),([]:List Y21),())
def m0n{ρ:Type}(a6:Val×Int×Unit->Option Y5)(n:Nat)(rec:Int×Y9×Int×Int×Y6×Unit->Option ρ)(kx:Y6×Unit->Option ρ)(kr:Int×Unit->Option ρ):Int×Y9×Int×Int×Y6×Unit->Option ρ:=
 λ(d,e,f,c,a,_)=>
 (bif decide ((c:Int)<f)then
 (ix e c).bind λb=>
 (a6 ((Val.mk b.kind b.n b.s b.l),wI (d+1),())).bind λ(g,_)=>
 (bif (g:Int) !=0 then kr (g,())
 else rec (d,e,f,wI (c+1),((Val.mk a.1.kind a.1.n a.1.s a.1.l),()),()))
 else kx (((Val.mk a.1.kind a.1.n a.1.s a.1.l),()),()))
def g1l(a6:Val×Int×Unit->Option Y5)(n:Nat):Val×Int×Unit->Option Y5:=
 λ(a,b,_)=>
 (bif (a.kind:Int)==0 then
 (bif !((((a.n:Int)==0)&& (seq a.s zb0))&& (((a.l.length:Int):Int)==0))then some (6,())
 else some (0,()))
 else
 (bif (a.kind:Int)==1 then
 (bif !(((((a.n:Int)==0) || ((a.n:Int)==1))&& (seq a.s zb0))&& (((a.l.length:Int):Int)==0))then some (6,())
 else some (0,()))
 else
 (bif (a.kind:Int)==2 then
 (bif !((seq a.s zb0)&& (((a.l.length:Int):Int)==0))then some (6,())
 else some (0,()))
 else
 (bif (a.kind:Int)==3 then
 (bif decide (((a.s.size:Int):Int) >4000)then some (2,())
 else
 (bif (a.n:Int)==0 then
 (z0j (a.s,())).bind λ(f,_)=>
 (bif !(f&& (((a.l.length:Int):Int)==0))then some (6,())
 else some (0,()))
 else some (6,())))
 else
 (bif (a.kind:Int)==4 then
 (bif (decide (((a.l.length:Int):Int) >30)) || (decide ((b:Int) >6))then some (2,())
 else
 a0a (λd=>m0n a6 n d (λ(c,_)=>
 (bif !(((c.1.n:Int)==0)&& (seq c.1.s zb0))then some (6,())
 else some (0,()))) (λ(e,_)=>some (e,()))) (n) (b,a.l,(a.l.length:Int),0,((Val.mk a.kind a.n a.s a.l),()),()))
 else some (6,()))))))
def m1r:Nat->Val×Int×Unit->Option Y5
 | 0,_=>none
 |n+1,x=>g1l (m1r n) n x
def j0k(n:Nat):Val×Unit->Option Y5:=
 λ(a,_)=>
 (m1r n ((Val.mk a.kind a.n a.s a.l),1,())).bind λ(b,_)=>some (b,())
def a2u:Bt×Unit->Option Y36:=
 λ(a,_)=>let c:Option Y36:=(bif seq a zb10 then
 (bif seq a zb10 then some ((-1),true,())
 else some (0,false,()))
 else
 (bif seq a zb19 then some ((-1),true,())
 else some (0,false,())));let b:Option Y36:=(bif seq a zb7 then
 (bif seq a zb7 then some (1,true,())
 else
 c)
 else
 (bif seq a zb4 then
 (bif seq a zb4 then some (1,true,())
 else
 c)
 else
 (bif seq a zb8 then
 (bif seq a zb8 then some (1,true,())
 else
 c)
 else
 (bif seq a zb9 then
 (bif seq a zb9 then some (1,true,())
 else
 c)
 else
 (bif seq a zb5 then
 (bif seq a zb5 then some (1,true,())
 else
 c)
 else
 (bif seq a zb6 then some (1,true,())
 else
 c))))));
 (bif seq a zb1 then
 (bif seq a zb1 then some (2,true,())
 else
 b)
 else
 (bif seq a zb2 then
 (bif seq a zb2 then some (2,true,())
 else
 b)
 else
 (bif seq a zb3 then
 (bif seq a zb3 then some (2,true,())
 else
 b)
 else
 (bif seq a zb15 then
 (bif seq a zb15 then some (2,true,())
 else
 b)
 else
 (bif seq a zb16 then
 (bif seq a zb16 then some (2,true,())
 else
 b)
 else
 (bif seq a zb11 then
 (bif seq a zb11 then some (2,true,())
 else
 b)
 else
 (bif seq a zb12 then
 (bif seq a zb12 then some (2,true,())
 else
 b)
 else
 (bif seq a zb13 then
 (bif seq a zb13 then some (2,true,())
 else
 b)
 else
 (bif seq a zb18 then some (2,true,())
 else
 b)))))))))
def h0f{ρ:Type}(aL:Term×Y10×Int×Unit->Option Y5)(n:Nat)(kr:Int×Unit->Option ρ):Int->Term->(Y10×Int×Y12×Unit)->((Y10×Int×Y12×Unit)->Option ρ)->Option ρ:=
 λg c (d,e,b,_) rec=>
 (aL ((Term.mk c.kind (Val.mk c.v.kind c.v.n c.v.s c.v.l) c.name c.a),d,wI (e+1),())).bind λ(f,_)=>
 (bif (f:Int) !=0 then kr (f,())
 else rec (d,e,((Term.mk b.1.kind (Val.mk b.1.v.kind b.1.v.n b.1.v.s b.1.v.l) b.1.name b.1.a),()),()))
def y0y{ρ:Type}(aL:Term×Y10×Int×Unit->Option Y5)(n:Nat)(rec:Y10×Int×Y33×Int×Int×Y12×Unit->Option ρ)(kx:Y10×Y12×Unit->Option ρ)(kr:Int×Unit->Option ρ):Y10×Int×Y33×Int×Int×Y12×Unit->Option ρ:=
 λ(d,g,e,f,c,b,_)=>
 (bif decide ((c:Int)<f)then
 (ix e c).bind λm=>h0f aL n kr c m (d,g,b,()) (λ(h,j,k,_)=>rec (h,j,e,f,wI (c+1),k,()))
 else kx (d,((Term.mk b.1.kind (Val.mk b.1.v.kind b.1.v.n b.1.v.s b.1.v.l) b.1.name b.1.a),()),()))
theorem m1l{ρ:Type}(aL:Term×Y10×Int×Unit->Option Y5)(n:Nat)(kx:Y10×Y12×Unit->Option ρ)(kr:Int×Unit->Option ρ)(l:List Term)(fuel:Nat)(c:List Y21)(d:Int)(b:Term×Unit)(hl:l.length<=9223372036854775807)(hf:l.length<fuel):
  a0a (λrc=>y0y aL n rc kx kr) fuel (c,d,l,(l.length:Int),0,b,())=a0b (h0f aL n kr) (λ(c,d,b,_)=>kx (c,((Term.mk b.1.kind (Val.mk b.1.v.kind b.1.v.n b.1.v.s b.1.v.l) b.1.name b.1.a),()),())) 0 l (c,d,b,()):=
 a0c l (λi (c,d,b,_)=>(c,d,l,(l.length:Int),i,b,())) _ _ _ (λrec i s=>rfl) hl fuel (c,d,b,()) hf
def h1i(aL:Term×Y10×Int×Unit->Option Y5)(n:Nat):Term×Y10×Int×Unit->Option Y5:=
 λ(b,e,f,_)=>
 (bif decide ((f:Int) >6)then some (2,())
 else
 (bif (b.kind:Int)==1 then
 (bif (!(seq b.name zb0)) || (decide (((b.a.length:Int):Int) >0))then some (6,())
 else
 (bif (b.v.kind:Int)==4 then some (6,())
 else
 (j0k n ((Val.mk b.v.kind b.v.n b.v.s b.v.l),())).bind λ(w,_)=>some (w,())))
 else
 (bif (b.kind:Int)==2 then
 (bif (!(((((b.v.kind:Int)==0)&& ((b.v.n:Int)==0))&& (seq b.v.s zb0))&& (((b.v.l.length:Int):Int)==0))) || (decide (((b.a.length:Int):Int) >0))then some (6,())
 else
 (f0u n (b.name,())).bind λ(x,_)=>
 (bif !x then some (6,())
 else
 (bif !(f0a .str .bool e b.name)then some (5,())
 else some (0,()))))
 else
 (bif (b.kind:Int)==3 then
 (bif (!(((((b.v.kind:Int)==0)&& ((b.v.n:Int)==0))&& (seq b.v.s zb0))&& (((b.v.l.length:Int):Int)==0))) || (((b.a.length:Int):Int) !=1)then some (6,())
 else
 (ix b.a 0).bind λt=>
 (bif (t.kind:Int) !=2 then some (6,())
 else
 (j0a n (b.name,())).bind λ(y,_)=>
 (bif !y then some (6,())
 else
 (ix b.a 0).bind λd=>
 (aL ((Term.mk d.kind (Val.mk d.v.kind d.v.n d.v.s d.v.l) d.name d.a),e,wI (f+1),())).bind λ(z,_)=>some (z,()))))
 else
 (bif (b.kind:Int)==4 then
 (a2u (b.name,())).bind λ(h,u,_)=>
 (bif ((!u) || (!(((((b.v.kind:Int)==0)&& ((b.v.n:Int)==0))&& (seq b.v.s zb0))&& (((b.v.l.length:Int):Int)==0)))) || ((decide ((h:Int) >=0))&& (((b.a.length:Int):Int) !=h))then some (6,())
 else
 (bif decide (((b.a.length:Int):Int) >30)then some (2,())
 else
 a0a (λj=>y0y aL n j (λ(g,c,_)=>
 (bif seq c.1.name zb5 then
 (ix c.1.a 0).bind λm=>
 (bif (m.kind:Int) !=2 then some (3,())
 else
 (bif seq c.1.name zb6 then
 (ix c.1.a 0).bind λo=>
 (bif (o.kind:Int) !=2 then some (3,())
 else
 (ix c.1.a 0).bind λp=>
 (bif !(a0k .str .bool false g p.name)then some (3,())
 else some (0,())))
 else some (0,())))
 else
 (bif seq c.1.name zb6 then
 (ix c.1.a 0).bind λq=>
 (bif (q.kind:Int) !=2 then some (3,())
 else
 (ix c.1.a 0).bind λr=>
 (bif !(a0k .str .bool false g r.name)then some (3,())
 else some (0,())))
 else some (0,())))) (λ(k,_)=>some (k,()))) (n) (e,f,b.a,(b.a.length:Int),0,((Term.mk b.kind (Val.mk b.v.kind b.v.n b.v.s b.v.l) b.name b.a),()),())))
 else some (6,()))))))
def o1l:Nat->Term×Y10×Int×Unit->Option Y5
 | 0,_=>none
 |n+1,x=>h1i (o1l n) n x
def p1r(n:Nat):Term×Y10×Unit->Option Y5:=
 λ(b,c,_)=>
 (o1l n ((Term.mk b.kind (Val.mk b.v.kind b.v.n b.v.s b.v.l) b.name b.a),c,1,())).bind λ(d,_)=>some (d,())
def m0k{ρ:Type}(n:Nat)(kr:Int×Unit->Option ρ):Int->Ev.Dot->(Y4×Unit)->((Y4×Unit)->Option ρ)->Option ρ:=
 λf a (b,_) rec=>
 (bif !(seq a.name zb0)then
 (f0u n (a.name,())).bind λ(c,_)=>
 (bif !c then kr (6,())
 else
 (bif !(seq a.label zb0)then
 (j0a n (a.label,())).bind λ(d,_)=>
 (bif !d then kr (6,())
 else rec (b,()))
 else rec (b,())))
 else
 (bif !(seq a.label zb0)then
 (j0a n (a.label,())).bind λ(e,_)=>
 (bif !e then kr (6,())
 else rec (b,()))
 else rec (b,())))
def g1e{ρ:Type}(n:Nat)(rec:Y35×Int×Int×Y4×Unit->Option ρ)(kx:Y4×Unit->Option ρ)(kr:Int×Unit->Option ρ):Y35×Int×Int×Y4×Unit->Option ρ:=
 λ(c,d,a,b,_)=>
 (bif decide ((a:Int)<d)then
 (ix c a).bind λf=>m0k n kr a f (b,()) (λ(e,_)=>rec (c,d,wI (a+1),e,()))
 else kx (b,()))
def m0i{ρ:Type}(n:Nat)(kr:Int×Unit->Option ρ):Int->Ev.Arrow->(Y4×Unit)->((Y4×Unit)->Option ρ)->Option ρ:=
 λf a (b,_) rec=>
 (bif !(seq a.name zb0)then
 (f0u n (a.name,())).bind λ(c,_)=>
 (bif (!c) || a.many then kr (6,())
 else
 (bif !(seq a.type zb0)then
 (j0a n (a.type,())).bind λ(d,_)=>
 (bif !d then kr (6,())
 else rec (b,()))
 else rec (b,())))
 else
 (bif !(seq a.type zb0)then
 (j0a n (a.type,())).bind λ(e,_)=>
 (bif !e then kr (6,())
 else rec (b,()))
 else rec (b,())))
def g1o{ρ:Type}(n:Nat)(rec:Y28×Int×Int×Y4×Unit->Option ρ)(kx:Y4×Unit->Option ρ)(kr:Int×Unit->Option ρ):Y28×Int×Int×Y4×Unit->Option ρ:=
 λ(c,d,a,b,_)=>
 (bif decide ((a:Int)<d)then
 (ix c a).bind λf=>m0i n kr a f (b,()) (λ(e,_)=>rec (c,d,wI (a+1),e,()))
 else kx (b,()))
def m0q{ρ:Type}(n:Nat)(kr:Int×Unit->Option ρ):Int->Term->(Y10×Y4×Unit)->((Y10×Y4×Unit)->Option ρ)->Option ρ:=
 λf b (c,e,_) rec=>
 (p1r n ((Term.mk b.kind (Val.mk b.v.kind b.v.n b.v.s b.v.l) b.name b.a),c,())).bind λ(d,_)=>
 (bif (d:Int) !=0 then kr (d,())
 else rec (c,e,()))
def f1v{ρ:Type}(n:Nat)(rec:Y10×Y33×Int×Int×Y4×Unit->Option ρ)(kx:Y10×Y4×Unit->Option ρ)(kr:Int×Unit->Option ρ):Y10×Y33×Int×Int×Y4×Unit->Option ρ:=
 λ(c,d,e,a,b,_)=>
 (bif decide ((a:Int)<e)then
 (ix d a).bind λh=>m0q n kr a h (c,b,()) (λ(f,g,_)=>rec (f,d,e,wI (a+1),g,()))
 else kx (c,b,()))
def m0a{ρ:Type}(n:Nat)(kr:Int×Unit->Option ρ):Int->Ev.Item->(Y10×Y10×Unit)->((Y10×Y10×Unit)->Option ρ)->Option ρ:=
 λh b (d,c,_) rec=>
 (f0u n (b.name,())).bind λ(f,_)=>
 (bif !f then kr (6,())
 else
 (q26z n (([zb0,zb14,zb24,zb21,zb22]:List Bt),b.agg,())).bind λ(g,_)=>
 (bif !g then kr (6,())
 else
 (bif (a0k .str .bool false c b.name)then kr (7,())
 else
 (p1r n ((Term.mk b.t.kind (Val.mk b.t.v.kind b.t.v.n b.t.v.s b.t.v.l) b.t.name b.t.a),d,())).bind λ(e,_)=>
 (bif (e:Int) !=0 then kr (e,())
 else rec (d,b0d .str .bool c b.name true,())))))
def h1m{ρ:Type}(n:Nat)(rec:Y10×Y31×Int×Int×Y10×Unit->Option ρ)(kx:Unit->Option ρ)(kr:Int×Unit->Option ρ):Y10×Y31×Int×Int×Y10×Unit->Option ρ:=
 λ(e,b,c,a,d,_)=>
 (bif decide ((a:Int)<c)then
 (ix b a).bind λh=>m0a n kr a h (e,d,()) (λ(f,g,_)=>rec (f,b,c,wI (a+1),g,()))
 else kx (()))
theorem q1p{ρ:Type}(n:Nat)(kx:Y4×Unit->Option ρ)(kr:Int×Unit->Option ρ)(l:List Ev.Dot)(fuel:Nat)(a:Query×Unit)(hl:l.length<=9223372036854775807)(hf:l.length<fuel):
  a0a (λrc=>g1e n rc kx kr) fuel (l,(l.length:Int),0,a,())=a0b (m0k n kr) (λ(a,_)=>kx (a,())) 0 l (a,()):=
 a0c l (λi (a,_)=>(l,(l.length:Int),i,a,())) _ _ _ (λrec i s=>rfl) hl fuel (a,()) hf
theorem p1f{ρ:Type}(n:Nat)(kx:Y4×Unit->Option ρ)(kr:Int×Unit->Option ρ)(l:List Ev.Arrow)(fuel:Nat)(a:Query×Unit)(hl:l.length<=9223372036854775807)(hf:l.length<fuel):
  a0a (λrc=>g1o n rc kx kr) fuel (l,(l.length:Int),0,a,())=a0b (m0i n kr) (λ(a,_)=>kx (a,())) 0 l (a,()):=
 a0c l (λi (a,_)=>(l,(l.length:Int),i,a,())) _ _ _ (λrec i s=>rfl) hl fuel (a,()) hf
theorem t1i{ρ:Type}(n:Nat)(kx:Y10×Y4×Unit->Option ρ)(kr:Int×Unit->Option ρ)(l:List Term)(fuel:Nat)(b:List Y21)(a:Query×Unit)(hl:l.length<=9223372036854775807)(hf:l.length<fuel):
  a0a (λrc=>f1v n rc kx kr) fuel (b,l,(l.length:Int),0,a,())=a0b (m0q n kr) (λ(b,a,_)=>kx (b,a,())) 0 l (b,a,()):=
 a0c l (λi (b,a,_)=>(b,l,(l.length:Int),i,a,())) _ _ _ (λrec i s=>rfl) hl fuel (b,a,()) hf
theorem u1k{ρ:Type}(n:Nat)(kx:Unit->Option ρ)(kr:Int×Unit->Option ρ)(l:List Ev.Item)(fuel:Nat)(b:List Y21)(a:List Y21)(hl:l.length<=9223372036854775807)(hf:l.length<fuel):
  a0a (λrc=>h1m n rc kx kr) fuel (b,l,(l.length:Int),0,a,())=a0b (m0a n kr) (λ(b,a,_)=>kx (())) 0 l (b,a,()):=
 a0c l (λi (b,a,_)=>(b,l,(l.length:Int),i,a,())) _ _ _ (λrec i s=>rfl) hl fuel (b,a,()) hf
def q96z(n:Nat):Query×Unit->Option Y5:=
 λ(a,_)=>
 (bif ((((decide (((a.dots.length:Int):Int)<1)) || (decide (((a.dots.length:Int):Int) >5))) || (decide (((a.items.length:Int):Int)<1))) || (decide (((a.items.length:Int):Int) >5))) || (decide (((a.wher.length:Int):Int) >1))then some (2,())
 else
 (bif ((a.arrows.length:Int):Int) !=(wI ((a.dots.length:Int) - 1))then some (6,())
 else
 a0a (λj=>g1e n j (λ(c,_)=>
 a0a (λh=>g1o n h (λ(b,_)=>
 (q99z n (b.1,())).bind λ(q,e,_)=>
 (bif (e:Int) !=0 then some (e,())
 else
 a0a (λg=>f1v n g (λ(m,d,_)=>
 a0a (λf=>h1m n f (λ(_)=>some (0,())) (λ(p,_)=>some (p,()))) (n) (m,d.1.items,(d.1.items.length:Int),0,([]:List Y21),())) (λ(o,_)=>some (o,()))) (n) (q,b.1.wher,(b.1.wher.length:Int),0,b,()))) (λ(l,_)=>some (l,()))) (n) (c.1.arrows,(c.1.arrows.length:Int),0,c,())) (λ(k,_)=>some (k,()))) (n) (a.dots,(a.dots.length:Int),0,(a,()),())))
def w1i{ρ:Type}(n:Nat)(kr:Int×Unit->Option ρ):Int->Bt->(Y15×Unit)->((Y15×Unit)->Option ρ)->Option ρ:=
 λb c (a,_) rec=>
 (j0a n (c,())).bind λ(e,_)=>
 (bif !e then kr (6,())
 else
 (bif decide ((b:Int) >0)then
 (ix a (wI (b - 1))).bind λd=>
 (bif !(e0r d c)then kr (6,())
 else rec (a,()))
 else rec (a,())))
def w1w{ρ:Type}(n:Nat)(rec:Y15×Y15×Int×Int×Unit->Option ρ)(kx:Unit->Option ρ)(kr:Int×Unit->Option ρ):Y15×Y15×Int×Int×Unit->Option ρ:=
 λ(d,b,c,a,_)=>
 (bif decide ((a:Int)<c)then
 (ix b a).bind λf=>w1i n kr a f (d,()) (λ(e,_)=>rec (e,b,c,wI (a+1),()))
 else kx (()))
def q87z(n:Nat):Y15×Unit->Option Y5:=
 λ(a,_)=>
 (bif decide (((a.length:Int):Int) >4)then some (2,())
 else
 a0a (λb=>w1w n b (λ(_)=>some (0,())) (λ(c,_)=>some (c,()))) (n) (a,a,(a.length:Int),0,()))
def o1o{ρ:Type}(n:Nat)(kr:Int×Unit->Option ρ):Int->Prp->(Y42×Unit)->((Y42×Unit)->Option ρ)->Option ρ:=
 λd a (b,_) rec=>let c:=((Val.mk a.val.kind a.val.n a.val.s a.val.l),());
 (j0a n (a.name,())).bind λ(h,_)=>
 (bif !h then kr (6,())
 else
 (bif decide ((d:Int) >0)then
 (ix b (wI (d - 1))).bind λg=>
 (bif (!(e0r g.name a.name)) || ((a.val.kind:Int)==0)then kr (6,())
 else
 (j0k n c).bind λ(e,_)=>
 (bif (e:Int) !=0 then kr (e,())
 else rec (b,())))
 else
 (bif (a.val.kind:Int)==0 then kr (6,())
 else
 (j0k n c).bind λ(f,_)=>
 (bif (f:Int) !=0 then kr (f,())
 else rec (b,())))))
def o1p{ρ:Type}(n:Nat)(rec:Y42×Y42×Int×Int×Unit->Option ρ)(kx:Unit->Option ρ)(kr:Int×Unit->Option ρ):Y42×Y42×Int×Int×Unit->Option ρ:=
 λ(d,b,c,a,_)=>
 (bif decide ((a:Int)<c)then
 (ix b a).bind λf=>o1o n kr a f (d,()) (λ(e,_)=>rec (e,b,c,wI (a+1),()))
 else kx (()))
def q94z(n:Nat):Y42×Unit->Option Y5:=
 λ(a,_)=>
 (bif decide (((a.length:Int):Int) >6)then some (2,())
 else
 a0a (λb=>o1p n b (λ(_)=>some (0,())) (λ(c,_)=>some (c,()))) (n) (a,a,(a.length:Int),0,()))
def k0u{ρ:Type}(n:Nat)(rec:Int×Y2×Int×Int×Unit->Option ρ)(kx:Int×Unit->Option ρ)(kr:Int×Unit->Option ρ):Int×Y2×Int×Int×Unit->Option ρ:=
 λ(a,c,d,b,_)=>
 (bif decide ((b:Int)<d)then
 (ix c b).bind λe=>
 (bif (e:Int) !=a then kr (e,())
 else rec (a,c,d,wI (b+1),()))
 else kx (a,()))
def q62z(n:Nat):Y2×Unit->Option Y5:=
 λ(a,_)=>
 a0a (λb=>k0u n b (λ(c,_)=>some (c,())) (λ(d,_)=>some (d,()))) (n) (0,a,(a.length:Int),0,())
def q79z:Int×Unit->Option Y11:=
 λ(a,_)=>some ((a:Int) !=a,())
def q65z:Int×Int×Unit->Option Y5:=
 λ(a,b,_)=>
 (q79z (a,())).bind λ(d,_)=>
 (q79z (b,())).bind λ(c,_)=>
 (bif d then
 (bif c then some (0,())
 else some ((-1),()))
 else
 (bif c then some (1,())
 else
 (bif decide ((a:Int)<b)then some ((-1),())
 else
 (bif decide ((a:Int) >b)then some (1,())
 else some (0,())))))
def q86z:Ev.Node×Int×Unit->Option Y5:=
 λ(a,b,_)=>
 (q65z (a.id,b,())).bind λ(c,_)=>some (c,())
def s1w{ρ:Type}(n:Nat)(rec:Y17×Int×Int×Int×Int×Unit->Option ρ)(kx:Y17×Int×Int×Int×Unit->Option ρ)(kr:Unit->Option ρ):Y17×Int×Int×Int×Int×Unit->Option ρ:=
 λ(c,d,e,a,b,_)=>
 (bif decide ((a:Int)<b)then
 (ix c (wI (bshr .u64 (IntKind.wrap .u64 (wI (a+b))) 1))).bind λf=>
 (q86z ((Ev.Node.mk f.id f.labels f.props),d,())).bind λ(g,_)=>
 (bif decide ((g:Int)<0)then rec (c,d,e,wI ((wI (bshr .u64 (IntKind.wrap .u64 (wI (a+b))) 1))+1),b,())
 else rec (c,d,e,a,wI (bshr .u64 (IntKind.wrap .u64 (wI (a+b))) 1),()))
 else kx (c,d,e,a,()))
def q4z(n:Nat):Y17×Int×Unit->Option Y36:=
 λ(b,d,_)=>
 a0a (λe=>s1w n e (λ(f,g,h,a,_)=>
 (bif decide ((a:Int)<h)then
 (ix f a).bind λc=>
 (q86z ((Ev.Node.mk c.id c.labels c.props),g,())).bind λ(i,_)=>some (a,(i:Int)==0,())
 else some (a,false,()))) (λ(_)=>none)) (n) (b,d,(b.length:Int),0,(b.length:Int),())
def t0p(n:Nat):Graph×Int×Unit->Option Y5:=
 λ(a,b,_)=>
 (q4z n (a.nodes,b,())).bind λ(c,d,_)=>
 (bif !d then some ((-1),())
 else some (c,()))
def v1l{ρ:Type}(n:Nat)(kr:Int×Unit->Option ρ):Int->Ev.Node->(Int×Y29×Unit)->((Int×Y29×Unit)->Option ρ)->Option ρ:=
 λg a (d,b,_) rec=>
 (bif decide ((a.id:Int)<=d)then kr (6,())
 else
 (q87z n (a.labels,())).bind λ(e,_)=>
 (q94z n (a.props,())).bind λ(f,_)=>
 (q62z n (([e,f]:List Int),())).bind λ(c,_)=>
 (bif (c:Int) !=0 then kr (c,())
 else rec (a.id,((Graph.mk b.1.nodes b.1.edges b.1.next),()),())))
def q1i{ρ:Type}(n:Nat)(rec:Int×Y17×Int×Int×Y29×Unit->Option ρ)(kx:Int×Y29×Unit->Option ρ)(kr:Int×Unit->Option ρ):Int×Y17×Int×Int×Y29×Unit->Option ρ:=
 λ(c,d,e,b,a,_)=>
 (bif decide ((b:Int)<e)then
 (ix d b).bind λh=>v1l n kr b h (c,a,()) (λ(f,g,_)=>rec (f,d,e,wI (b+1),g,()))
 else kx (c,((Graph.mk a.1.nodes a.1.edges a.1.next),()),()))
def x1f{ρ:Type}(n:Nat)(kr:Int×Unit->Option ρ):Int->Edg->(Int×Int×Y29×Unit)->((Int×Int×Y29×Unit)->Option ρ)->Option ρ:=
 λk a (e,f,c,_) rec=>let b:=(Graph.mk c.1.nodes c.1.edges c.1.next);
 (bif decide ((a.id:Int)<=e)then kr (6,())
 else
 (t0p n (b,a.id,())).bind λ(g,_)=>
 (bif decide ((g:Int) >=0)then kr (6,())
 else
 (j0a n (a.type,())).bind λ(h,_)=>
 (bif !h then kr (6,())
 else
 (t0p n (b,a.src,())).bind λ(i,_)=>
 (bif decide ((i:Int)<0)then kr (5,())
 else
 (t0p n (b,a.dst,())).bind λ(j,_)=>
 (bif decide ((j:Int)<0)then kr (5,())
 else
 (q94z n (a.props,())).bind λ(d,_)=>
 (bif (d:Int) !=0 then kr (d,())
 else rec (a.id,f,(b,()),())))))))
def u1i{ρ:Type}(n:Nat)(rec:Int×Int×Y43×Int×Int×Y29×Unit->Option ρ)(kx:Int×Int×Y29×Unit->Option ρ)(kr:Int×Unit->Option ρ):Int×Int×Y43×Int×Int×Y29×Unit->Option ρ:=
 λ(c,d,e,f,b,a,_)=>
 (bif decide ((b:Int)<f)then
 (ix e b).bind λk=>x1f n kr b k (c,d,a,()) (λ(g,h,j,_)=>rec (g,h,e,f,wI (b+1),j,()))
 else kx (c,d,((Graph.mk a.1.nodes a.1.edges a.1.next),()),()))
def q93z(n:Nat):Graph×Unit->Option Y5:=
 λ(a,_)=>
 (bif (decide (((a.nodes.length:Int):Int) >40)) || (decide (((a.edges.length:Int):Int) >60))then some (2,())
 else
 a0a (λg=>q1i n g (λ(h,b,_)=>
 a0a (λf=>u1i n f (λ(d,e,c,_)=>
 (bif (decide ((c.1.next:Int)<=(if d>e then d else e))) || (decide ((c.1.next:Int) >1099511627776))then some (9,())
 else some (0,()))) (λ(j,_)=>some (j,()))) (n) (0,h,b.1.edges,(b.1.edges.length:Int),0,((Graph.mk b.1.nodes b.1.edges b.1.next),()),())) (λ(i,_)=>some (i,()))) (n) (0,a.nodes,(a.nodes.length:Int),0,((Graph.mk a.nodes a.edges a.next),()),()))
def q29z:Y2×Unit->Option Y44:=
 λ(a,_)=>
 nilq a (some (([]:List Int),())) (
 ck (room (([]:List Int)++a).length 8) (some (([]:List Int)++a,())))
def f0x{ρ:Type}(n:Nat)(rec:Y40×Y17×Int×Int×(Ev.Node×Unit)×Y7×Y2×Unit->Option ρ)(kx:Y40×Y17×Int×Int×Y7×Unit->Option ρ)(kr:Unit->Option ρ):Y40×Y17×Int×Int×(Ev.Node×Unit)×Y7×Y2×Unit->Option ρ:=
 λ(c,g,h,j,a,e,b,_)=>
 (bif decide (((b.length:Int):Int) >0)then
 (ix b (wI ((b.length:Int) - 1))).bind λ_=>
 ((b)[(wI ((b.length:Int) - 1):Int).toNat]?).bind λd=>
 (cut? b (wI ((b.length:Int) - 1))).bind λf=>
 (bif !(a0k .pair .bool false e (Ev.Pair.mk a.1.id d))then
 ck (room (f++(a0k .i64 (.lst .i64) ([]:List Int) c d)).length 8) (rec (c,g,h,j,((Ev.Node.mk a.1.id a.1.labels a.1.props),()),b0d .pair .bool e (Ev.Pair.mk a.1.id d) true,f++(a0k .i64 (.lst .i64) ([]:List Int) c d),()))
 else rec (c,g,h,j,((Ev.Node.mk a.1.id a.1.labels a.1.props),()),e,f,()))
 else kx (c,g,h,j,e,()))
def d0b{ρ:Type}(n:Nat)(rec:Y40×Y17×Int×Int×Y7×Unit->Option ρ)(kx:Y7×Unit->Option ρ)(kr:Unit->Option ρ):Y40×Y17×Int×Int×Y7×Unit->Option ρ:=
 λ(d,e,f,b,c,_)=>
 (bif decide ((b:Int)<f)then
 (ix e b).bind λa=>
 (q29z ((a0k .i64 (.lst .i64) ([]:List Int) d a.id),())).bind λ(g,_)=>
 a0a (λj=>f0x n j (λ(k,l,m,o,h,_)=>rec (k,l,m,wI (o+1),h,())) (λ(_)=>none)) (n) (d,e,f,b,((Ev.Node.mk a.id a.labels a.props),()),c,g,())
 else kx (c,()))
def g0o(n:Nat):Graph×Bt×Unit->Option (Y7×Unit):=
 λ(a,b,_)=>
 (y1f ((Graph.mk a.nodes a.edges a.next),b,())).bind λ(e,_)=>
 a0a (λd=>d0b n d (λ(c,_)=>some (c,())) (λ(_)=>none)) (n) (e,a.nodes,(a.nodes.length:Int),0,([]:List (Ev.Pair×Bool)),())
def e0p{ρ:Type}(n:Nat)(kr:Unit->Option ρ):Int->Ev.Arrow->Y34->(Y34->Option ρ)->Option ρ:=
 λg e (a,b,c,_) rec=>let d:=((Query.mk b.1.dots b.1.arrows b.1.wher b.1.items b.1.dist),(Graph.mk b.2.1.nodes b.2.1.edges b.2.1.next),());
 (bif e.many then
 (g0o n ((Graph.mk a.1.nodes a.1.edges a.1.next),e.type,())).bind λ(f,_)=>
 ck (room (c++([f]:List Y7)).length 8) (rec (((Graph.mk a.1.nodes a.1.edges a.1.next),()),d,c++([f]:List Y7),()))
 else
 ck (room (c++([([]:List (Ev.Pair×Bool))]:List Y7)).length 8) (rec (((Graph.mk a.1.nodes a.1.edges a.1.next),()),d,c++([([]:List (Ev.Pair×Bool))]:List Y7),())))
def j0t{ρ:Type}(n:Nat)(rec:Y28×Int×Int×Y29×(Query×Graph×Unit)×(List Y7)×Unit->Option ρ)(kx:(Query×Graph×Unit)×(List Y7)×Unit->Option ρ)(kr:Unit->Option ρ):Y28×Int×Int×Y29×(Query×Graph×Unit)×(List Y7)×Unit->Option ρ:=
 λ(d,e,b,f,a,c,_)=>
 (bif decide ((b:Int)<e)then
 (ix d b).bind λk=>e0p n kr b k (f,a,c,()) (λ(g,h,j,_)=>rec (d,e,wI (b+1),g,h,j,()))
 else kx (((Query.mk a.1.dots a.1.arrows a.1.wher a.1.items a.1.dist),(Graph.mk a.2.1.nodes a.2.1.edges a.2.1.next),()),c,()))
theorem t0f{ρ:Type}(n:Nat)(kx:(Query×Graph×Unit)×(List Y7)×Unit->Option ρ)(kr:Unit->Option ρ)(l:List Ev.Arrow)(fuel:Nat)(c:Graph×Unit)(a:Query×Graph×Unit)(b:List Y7)(hl:l.length<=9223372036854775807)(hf:l.length<fuel):
  a0a (λrc=>j0t n rc kx kr) fuel (l,(l.length:Int),0,c,a,b,())=a0b (e0p n kr) (λ(c,a,b,_)=>kx (((Query.mk a.1.dots a.1.arrows a.1.wher a.1.items a.1.dist),(Graph.mk a.2.1.nodes a.2.1.edges a.2.1.next),()),b,())) 0 l (c,a,b,()):=
 a0c l (λi (c,a,b,_)=>(l,(l.length:Int),i,c,a,b,())) _ _ _ (λrec i s=>rfl) hl fuel (c,a,b,()) hf
def i0r(n:Nat):Query×Graph×Unit->Option (Y0×Unit):=
 λ(b,c,_)=>
 a0a (λe=>j0t n e (λ(a,d,_)=>some (((Query.mk a.1.dots a.1.arrows a.1.wher a.1.items a.1.dist),(Graph.mk a.2.1.nodes a.2.1.edges a.2.1.next),d,()),())) (λ(_)=>none)) (n) (b.arrows,(b.arrows.length:Int),0,((Graph.mk c.nodes c.edges c.next),()),((Query.mk b.dots b.arrows b.wher b.items b.dist),(Graph.mk c.nodes c.edges c.next),()),([]:List Y7),())
def l0r{ρ:Type}(n:Nat)(kr:Unit->Option ρ):Int->Ev.Dot->Y18->(Y18->Option ρ)->Option ρ:=
 λd j (c,e,a,b,_) rec=>let h:=((Envr.mk (Graph.mk c.1.g.nodes c.1.g.edges c.1.g.next) c.1.at_),());let f:=((Query.mk a.1.dots a.1.arrows a.1.wher a.1.items a.1.dist),(Graph.mk a.2.1.nodes a.2.1.edges a.2.1.next),a.2.2.1,());
 (bif !(seq j.name zb0)then
 (ix b d).bind λ_=>
 ((b)[(d:Int).toNat]?).bind λk=>
 (bif (k:Int) !=0 then
 (ix b d).bind λ_=>
 ((b)[(d:Int).toNat]?).bind λl=>rec (h,b0d .str .i64 e j.name l,f,b,())
 else rec (h,e,f,b,()))
 else rec (h,e,f,b,()))
def e1e{ρ:Type}(n:Nat)(rec:Y35×Int×Int×Y25×(List Y27)×Y0×Y2×Unit->Option ρ)(kx:Y25×(List Y27)×Y0×Y2×Unit->Option ρ)(kr:Unit->Option ρ):Y35×Int×Int×Y25×(List Y27)×Y0×Y2×Unit->Option ρ:=
 λ(f,h,c,b,d,a,e,_)=>
 (bif decide ((c:Int)<h)then
 (ix f c).bind λo=>l0r n kr c o (b,d,a,e,()) (λ(j,k,l,m,_)=>rec (f,h,wI (c+1),j,k,l,m,()))
 else kx (((Envr.mk (Graph.mk b.1.g.nodes b.1.g.edges b.1.g.next) b.1.at_),()),d,((Query.mk a.1.dots a.1.arrows a.1.wher a.1.items a.1.dist),(Graph.mk a.2.1.nodes a.2.1.edges a.2.1.next),a.2.2.1,()),e,()))
def j0o{ρ:Type}(n:Nat)(kr:Unit->Option ρ):Int->Ev.Arrow->Y18->(Y18->Option ρ)->Option ρ:=
 λh j (b,d,a,c,_) rec=>let f:=((Envr.mk (Graph.mk b.1.g.nodes b.1.g.edges b.1.g.next) b.1.at_),());let e:=((Query.mk a.1.dots a.1.arrows a.1.wher a.1.items a.1.dist),(Graph.mk a.2.1.nodes a.2.1.edges a.2.1.next),a.2.2.1,());
 (bif !(seq j.name zb0)then
 (ix c (wI ((a.1.dots.length:Int)+h))).bind λ_=>
 ((c)[(wI ((a.1.dots.length:Int)+h):Int).toNat]?).bind λk=>rec (f,b0d .str .i64 d j.name k,e,c,())
 else rec (f,d,e,c,()))
def g1m{ρ:Type}(n:Nat)(rec:Y28×Int×Int×Y25×(List Y27)×Y0×Y2×Unit->Option ρ)(kx:Y25×(List Y27)×Y0×Y2×Unit->Option ρ)(kr:Unit->Option ρ):Y28×Int×Int×Y25×(List Y27)×Y0×Y2×Unit->Option ρ:=
 λ(f,h,c,b,d,a,e,_)=>
 (bif decide ((c:Int)<h)then
 (ix f c).bind λo=>j0o n kr c o (b,d,a,e,()) (λ(j,k,l,m,_)=>rec (f,h,wI (c+1),j,k,l,m,()))
 else kx (((Envr.mk (Graph.mk b.1.g.nodes b.1.g.edges b.1.g.next) b.1.at_),()),d,((Query.mk a.1.dots a.1.arrows a.1.wher a.1.items a.1.dist),(Graph.mk a.2.1.nodes a.2.1.edges a.2.1.next),a.2.2.1,()),e,()))
theorem v1u{ρ:Type}(n:Nat)(kx:Y25×(List Y27)×Y0×Y2×Unit->Option ρ)(kr:Unit->Option ρ)(l:List Ev.Dot)(fuel:Nat)(b:Envr×Unit)(c:List Y27)(a:Query×Graph×(List Y7)×Unit)(d:List Int)(hl:l.length<=9223372036854775807)(hf:l.length<fuel):
  a0a (λrc=>e1e n rc kx kr) fuel (l,(l.length:Int),0,b,c,a,d,())=a0b (l0r n kr) (λ(b,c,a,d,_)=>kx (((Envr.mk (Graph.mk b.1.g.nodes b.1.g.edges b.1.g.next) b.1.at_),()),c,((Query.mk a.1.dots a.1.arrows a.1.wher a.1.items a.1.dist),(Graph.mk a.2.1.nodes a.2.1.edges a.2.1.next),a.2.2.1,()),d,())) 0 l (b,c,a,d,()):=
 a0c l (λi (b,c,a,d,_)=>(l,(l.length:Int),i,b,c,a,d,())) _ _ _ (λrec i s=>rfl) hl fuel (b,c,a,d,()) hf
theorem u1o{ρ:Type}(n:Nat)(kx:Y25×(List Y27)×Y0×Y2×Unit->Option ρ)(kr:Unit->Option ρ)(l:List Ev.Arrow)(fuel:Nat)(b:Envr×Unit)(c:List Y27)(a:Query×Graph×(List Y7)×Unit)(d:List Int)(hl:l.length<=9223372036854775807)(hf:l.length<fuel):
  a0a (λrc=>g1m n rc kx kr) fuel (l,(l.length:Int),0,b,c,a,d,())=a0b (j0o n kr) (λ(b,c,a,d,_)=>kx (((Envr.mk (Graph.mk b.1.g.nodes b.1.g.edges b.1.g.next) b.1.at_),()),c,((Query.mk a.1.dots a.1.arrows a.1.wher a.1.items a.1.dist),(Graph.mk a.2.1.nodes a.2.1.edges a.2.1.next),a.2.2.1,()),d,())) 0 l (b,c,a,d,()):=
 a0c l (λi (b,c,a,d,_)=>(l,(l.length:Int),i,b,c,a,d,())) _ _ _ (λrec i s=>rfl) hl fuel (b,c,a,d,()) hf
def q56z(n:Nat):Y0×Y2×Unit->Option (Envr×Y0×Y2×Unit):=
 λ(a,i,_)=>
 a0a (λm=>e1e n m (λ(d,f,b,h,_)=>
 a0a (λl=>g1m n l (λ(o,j,c,k,_)=>let e:=(Graph.mk c.2.1.nodes c.2.1.edges c.2.1.next);some ((Envr.mk e j),((Query.mk c.1.dots c.1.arrows c.1.wher c.1.items c.1.dist),e,c.2.2.1,()),k,())) (λ(_)=>none)) (n) (b.1.arrows,(b.1.arrows.length:Int),0,((Envr.mk (Graph.mk d.1.g.nodes d.1.g.edges d.1.g.next) d.1.at_),()),f,((Query.mk b.1.dots b.1.arrows b.1.wher b.1.items b.1.dist),(Graph.mk b.2.1.nodes b.2.1.edges b.2.1.next),b.2.2.1,()),h,())) (λ(_)=>none)) (n) (a.1.dots,(a.1.dots.length:Int),0,((Envr.mk (Graph.mk ([]:List Ev.Node) ([]:List Edg) 0) ([]:List Y27)),()),([]:List Y27),((Query.mk a.1.dots a.1.arrows a.1.wher a.1.items a.1.dist),(Graph.mk a.2.1.nodes a.2.1.edges a.2.1.next),a.2.2.1,()),i,())
def y0z{ρ:Type}(aY:Val×Unit->Option Y6)(n:Nat)(rec:Y9×Int×Int×Y26×Y6×Y9×Unit->Option ρ)(kx:Y26×Y6×Y9×Unit->Option ρ)(kr:Unit->Option ρ):Y9×Int×Int×Y26×Y6×Y9×Unit->Option ρ:=
 λ(g,h,f,c,a,e,_)=>
 (bif decide ((f:Int)<h)then
 (ix g f).bind λd=>
 (aY ((Val.mk d.kind d.n d.s d.l),())).bind λ(b,_)=>
 ck (room (e++([(Val.mk b.kind b.n b.s b.l)]:List Val)).length 56) (rec (g,h,wI (f+1),(c.1,c.2.1,c.2.2.1,()),((Val.mk a.1.kind a.1.n a.1.s a.1.l),()),e++([(Val.mk b.kind b.n b.s b.l)]:List Val),()))
 else kx ((c.1,c.2.1,c.2.2.1,()),((Val.mk a.1.kind a.1.n a.1.s a.1.l),()),e,()))
def e1h(aY:Val×Unit->Option Y6)(n:Nat):Val×Unit->Option Y6:=
 λ(a,_)=>
 a0a (λd=>y0z aY n d (λ(b,e,c,_)=>some ((Val.mk b.1 b.2.1 b.2.2.1 c),())) (λ(_)=>none)) (n) (a.l,(a.l.length:Int),0,(a.kind,a.n,a.s,()),((Val.mk 0 0 zb0 ([]:List Val)),()),([]:List Val),())
def i0j:Nat->Val×Unit->Option Y6
 | 0,_=>none
 |n+1,x=>e1h (i0j n) n x
def i0y{ρ:Type}(n:Nat)(rec:Bt×Y42×Int×Int×Y6×Unit->Option ρ)(kx:Y6×Unit->Option ρ)(kr:Y6×Unit->Option ρ):Bt×Y42×Int×Int×Y6×Unit->Option ρ:=
 λ(e,f,g,d,a,_)=>
 (bif decide ((d:Int)<g)then
 (ix f d).bind λb=>
 (bif seq b.name e then
 (i0j n ((Val.mk b.val.kind b.val.n b.val.s b.val.l),())).bind λ(c,_)=>kr (((Val.mk c.kind c.n c.s c.l),()),())
 else rec (e,f,g,wI (d+1),((Val.mk a.1.kind a.1.n a.1.s a.1.l),()),()))
 else kx (((Val.mk a.1.kind a.1.n a.1.s a.1.l),()),()))
def j0s(n:Nat):Y42×Bt×Unit->Option Y6:=
 λ(b,d,_)=>let c:=((Val.mk 0 0 zb0 ([]:List Val)),());
 a0a (λe=>i0y n e (λ(f,_)=>some c) (λ(a,_)=>some ((Val.mk a.1.kind a.1.n a.1.s a.1.l),()))) (n) (d,b,(b.length:Int),0,c,())
def q64z:Edg×Int×Unit->Option Y5:=
 λ(a,b,_)=>
 (q65z (a.id,b,())).bind λ(c,_)=>some (c,())
def o1q{ρ:Type}(n:Nat)(rec:Y43×Int×Int×Int×Int×Unit->Option ρ)(kx:Y43×Int×Int×Int×Unit->Option ρ)(kr:Unit->Option ρ):Y43×Int×Int×Int×Int×Unit->Option ρ:=
 λ(d,e,f,a,b,_)=>
 (bif decide ((a:Int)<b)then
 (ix d (wI (bshr .u64 (IntKind.wrap .u64 (wI (a+b))) 1))).bind λc=>
 (q64z ((Edg.mk c.id c.src c.dst c.type c.props),e,())).bind λ(g,_)=>
 (bif decide ((g:Int)<0)then rec (d,e,f,wI ((wI (bshr .u64 (IntKind.wrap .u64 (wI (a+b))) 1))+1),b,())
 else rec (d,e,f,a,wI (bshr .u64 (IntKind.wrap .u64 (wI (a+b))) 1),()))
 else kx (d,e,f,a,()))
def q3z(n:Nat):Y43×Int×Unit->Option Y36:=
 λ(c,d,_)=>
 a0a (λe=>o1q n e (λ(f,g,h,b,_)=>
 (bif decide ((b:Int)<h)then
 (ix f b).bind λa=>
 (q64z ((Edg.mk a.id a.src a.dst a.type a.props),g,())).bind λ(i,_)=>some (b,(i:Int)==0,())
 else some (b,false,()))) (λ(_)=>none)) (n) (c,d,(c.length:Int),0,(c.length:Int),())
def q72z(n:Nat):Graph×Int×Unit->Option Y5:=
 λ(a,b,_)=>
 (q3z n (a.edges,b,())).bind λ(c,d,_)=>
 (bif !d then some ((-1),())
 else some (c,()))
def q75z(n:Nat):Envr×Int×Bt×Unit->Option Y6:=
 λ(a,i,d,_)=>let e:=((Graph.mk a.g.nodes a.g.edges a.g.next),i,());
 (t0p n e).bind λ(f,_)=>
 (bif decide ((f:Int) >=0)then
 (ix a.g.nodes f).bind λj=>
 (j0s n (j.props,d,())).bind λ(b,_)=>some ((Val.mk b.kind b.n b.s b.l),())
 else
 (q72z n e).bind λ(h,_)=>
 (bif decide ((h:Int) >=0)then
 (ix a.g.edges h).bind λk=>
 (j0s n (k.props,d,())).bind λ(c,_)=>some ((Val.mk c.kind c.n c.s c.l),())
 else some ((Val.mk 0 0 zb0 ([]:List Val)),())))
def m0c:Int×Int×Unit->Option Y36:=
 λ(a,b,_)=>some (wI (a+b),(decide ((wI (a+b):Int) >a))==(decide ((b:Int) >0)),())
def m0e{ρ:Type}(n:Nat)(kr:Unit->Option ρ):Int->Val->(Y26×Y6×Y9×Unit)->((Y26×Y6×Y9×Unit)->Option ρ)->Option ρ:=
 λf c (d,b,e,_) rec=>
 (i0j n ((Val.mk c.kind c.n c.s c.l),())).bind λ(a,_)=>
 ck (room (e++([(Val.mk a.kind a.n a.s a.l)]:List Val)).length 56) (rec ((d.1,d.2.1,d.2.2.1,()),((Val.mk b.1.kind b.1.n b.1.s b.1.l),()),e++([(Val.mk a.kind a.n a.s a.l)]:List Val),()))
def h1n{ρ:Type}(n:Nat)(rec:Y9×Int×Int×Y26×Y6×Y9×Unit->Option ρ)(kx:Y26×Y6×Y9×Unit->Option ρ)(kr:Unit->Option ρ):Y9×Int×Int×Y26×Y6×Y9×Unit->Option ρ:=
 λ(g,h,f,c,a,e,_)=>
 (bif decide ((f:Int)<h)then
 (ix g f).bind λd=>
 (i0j n ((Val.mk d.kind d.n d.s d.l),())).bind λ(b,_)=>
 ck (room (e++([(Val.mk b.kind b.n b.s b.l)]:List Val)).length 56) (rec (g,h,wI (f+1),(c.1,c.2.1,c.2.2.1,()),((Val.mk a.1.kind a.1.n a.1.s a.1.l),()),e++([(Val.mk b.kind b.n b.s b.l)]:List Val),()))
 else kx ((c.1,c.2.1,c.2.2.1,()),((Val.mk a.1.kind a.1.n a.1.s a.1.l),()),e,()))
theorem w1s{ρ:Type}(n:Nat)(kx:Y26×Y6×Y9×Unit->Option ρ)(kr:Unit->Option ρ)(l:List Val)(fuel:Nat)(b:Int×Int×Bt×Unit)(a:Val×Unit)(c:List Val)(hl:l.length<=9223372036854775807)(hf:l.length<fuel):
  a0a (λrc=>h1n n rc kx kr) fuel (l,(l.length:Int),0,b,a,c,())=a0b (m0e n kr) (λ(b,a,c,_)=>kx ((b.1,b.2.1,b.2.2.1,()),((Val.mk a.1.kind a.1.n a.1.s a.1.l),()),c,())) 0 l (b,a,c,()):=
 a0c l (λi (b,a,c,_)=>(l,(l.length:Int),i,b,a,c,())) _ _ _ (λrec i s=>rfl) hl fuel (b,a,c,()) hf
def q76z(n:Nat):Val×Unit->Option (Y26×Y9×Unit):=
 λ(a,_)=>
 a0a (λd=>h1n n d (λ(b,e,c,_)=>some ((b.1,b.2.1,b.2.2.1,()),c,())) (λ(_)=>none)) (n) (a.l,(a.l.length:Int),0,(a.kind,a.n,a.s,()),((Val.mk 0 0 zb0 ([]:List Val)),()),([]:List Val),())
def m0u:Int×Int×Unit->Option Y36:=
 λ(a,b,_)=>some (wI (a - b),(decide ((wI (a - b):Int)<a))==(decide ((b:Int) >0)),())
def t1g:Int×Unit->Option Y5:=
 λ(a,_)=>
 (bif decide ((a:Int)<0)then some (IntKind.wrap .u64 (0 - (IntKind.wrap .u64 (a))),())
 else some (IntKind.wrap .u64 (a),()))
def q67z:Int×Int×Unit->Option Y20:=
 λ(a,b,_)=>some (IntKind.wrap .u64 ((IntKind.wrap .u64 ((IntKind.wrap .u64 ((bshr .u64 a 32)*(bshr .u64 b 32)))+(bshr .u64 (IntKind.wrap .u64 ((IntKind.wrap .u64 ((bshr .u64 a 32)*(band .u64 b 4294967295)))+(bshr .u64 (IntKind.wrap .u64 ((band .u64 a 4294967295)*(band .u64 b 4294967295))) 32))) 32)))+(bshr .u64 (IntKind.wrap .u64 ((band .u64 (IntKind.wrap .u64 ((IntKind.wrap .u64 ((bshr .u64 a 32)*(band .u64 b 4294967295)))+(bshr .u64 (IntKind.wrap .u64 ((band .u64 a 4294967295)*(band .u64 b 4294967295))) 32))) 4294967295)+(IntKind.wrap .u64 ((band .u64 a 4294967295)*(bshr .u64 b 32))))) 32)),IntKind.wrap .u64 (a*b),())
def m0t:Int×Int×Unit->Option Y36:=
 λ(b,c,_)=>
 (t1g (b,())).bind λ(d,_)=>
 (t1g (c,())).bind λ(e,_)=>
 (q67z (d,e,())).bind λ(f,a,_)=>
 (bif (((f:Int) !=0) || (decide ((a:Int) >9223372036854775808))) || (((a:Int)==9223372036854775808)&& (!(!((decide ((b:Int)<0))==(decide ((c:Int)<0))))))then some (0,false,())
 else
 (bif !((decide ((b:Int)<0))==(decide ((c:Int)<0)))then some (wI (IntKind.wrap .u64 (0 - a)),true,())
 else some (wI (a),true,())))
def q88z(n:Nat):Bt×Val×Val×Unit->Option (Val×Int×Unit):=
 λ(d,a,b,_)=>let c:=(Val.mk 0 0 zb0 ([]:List Val));
 (bif seq d zb1 then
 (bif ((a.kind:Int)==0) || ((b.kind:Int)==0)then some (c,0,())
 else
 (bif ((a.kind:Int)==2)&& ((b.kind:Int)==2)then
 (m0c (a.n,b.n,())).bind λ(v,w,_)=>
 (bif !w then some (c,4,())
 else some ((Val.mk 2 v zb0 ([]:List Val)),0,()))
 else
 (bif ((seq d zb1)&& ((a.kind:Int)==3))&& ((b.kind:Int)==3)then
 (bif decide ((wI ((a.s.size:Int)+(b.s.size:Int)):Int) >4000)then some (c,2,())
 else
 (cat? a.s b.s).bind λp=>some ((Val.mk 3 0 p ([]:List Val)),0,()))
 else
 (bif ((seq d zb1)&& ((a.kind:Int)==4))&& ((b.kind:Int)==4)then
 (bif decide ((wI ((a.l.length:Int)+(b.l.length:Int)):Int) >30)then some (c,2,())
 else
 (q76z n ((Val.mk a.kind a.n a.s a.l),())).bind λ(y8,k,_)=>
 (q76z n ((Val.mk b.kind b.n b.s b.l),())).bind λ(x,e,_)=>
 ck (room (k++e).length 56) (some ((Val.mk 4 0 zb0 (k++e)),0,())))
 else some (c,3,())))))
 else
 (bif seq d zb2 then
 (bif ((a.kind:Int)==0) || ((b.kind:Int)==0)then some (c,0,())
 else
 (bif ((a.kind:Int)==2)&& ((b.kind:Int)==2)then
 (m0u (a.n,b.n,())).bind λ(q,r,_)=>
 (bif !r then some (c,4,())
 else some ((Val.mk 2 q zb0 ([]:List Val)),0,()))
 else
 (bif ((seq d zb1)&& ((a.kind:Int)==3))&& ((b.kind:Int)==3)then
 (bif decide ((wI ((a.s.size:Int)+(b.s.size:Int)):Int) >4000)then some (c,2,())
 else
 (cat? a.s b.s).bind λm=>some ((Val.mk 3 0 m ([]:List Val)),0,()))
 else
 (bif ((seq d zb1)&& ((a.kind:Int)==4))&& ((b.kind:Int)==4)then
 (bif decide ((wI ((a.l.length:Int)+(b.l.length:Int)):Int) >30)then some (c,2,())
 else
 (q76z n ((Val.mk a.kind a.n a.s a.l),())).bind λ(y,f,_)=>
 (q76z n ((Val.mk b.kind b.n b.s b.l),())).bind λ(z,g,_)=>
 ck (room (f++g).length 56) (some ((Val.mk 4 0 zb0 (f++g)),0,())))
 else some (c,3,())))))
 else
 (bif seq d zb3 then
 (bif ((a.kind:Int)==0) || ((b.kind:Int)==0)then some (c,0,())
 else
 (bif ((a.kind:Int)==2)&& ((b.kind:Int)==2)then
 (m0t (a.n,b.n,())).bind λ(t,u,_)=>
 (bif !u then some (c,4,())
 else some ((Val.mk 2 t zb0 ([]:List Val)),0,()))
 else
 (bif ((seq d zb1)&& ((a.kind:Int)==3))&& ((b.kind:Int)==3)then
 (bif decide ((wI ((a.s.size:Int)+(b.s.size:Int)):Int) >4000)then some (c,2,())
 else
 (cat? a.s b.s).bind λo=>some ((Val.mk 3 0 o ([]:List Val)),0,()))
 else
 (bif ((seq d zb1)&& ((a.kind:Int)==4))&& ((b.kind:Int)==4)then
 (bif decide ((wI ((a.l.length:Int)+(b.l.length:Int)):Int) >30)then some (c,2,())
 else
 (q76z n ((Val.mk a.kind a.n a.s a.l),())).bind λ(aa,h,_)=>
 (q76z n ((Val.mk b.kind b.n b.s b.l),())).bind λ(ab,j,_)=>
 ck (room (h++j).length 56) (some ((Val.mk 4 0 zb0 (h++j)),0,())))
 else some (c,3,())))))
 else some (c,5,()))))
def q63z:Bt×Unit->Option Y11:=
 λ(a,_)=>some (!(seq a a),())
def q43z:Bt×Bt×Unit->Option Y5:=
 λ(a,b,_)=>
 (q63z (a,())).bind λ(d,_)=>
 (q63z (b,())).bind λ(c,_)=>
 (bif d then
 (bif c then some (0,())
 else some ((-1),()))
 else
 (bif c then some (1,())
 else
 (bif e0r a b then some ((-1),())
 else
 (bif !(e0r a b || seq a b)then some (1,())
 else some (0,())))))
def x1s{ρ:Type}(aM:Val×Val×Unit->Option Y5)(n:Nat)(rec:Y9×Y9×Y9×Int×Int×Unit->Option ρ)(kx:Y9×Y9×Unit->Option ρ)(kr:Int×Unit->Option ρ):Y9×Y9×Y9×Int×Int×Unit->Option ρ:=
 λ(e,b,f,g,a,_)=>
 (bif decide ((a:Int)<g)then
 (ix f a).bind λc=>
 (bif decide ((a:Int) >=(b.length:Int))then kr (1,())
 else
 (ix b a).bind λd=>
 (aM ((Val.mk c.kind c.n c.s c.l),(Val.mk d.kind d.n d.s d.l),())).bind λ(h,_)=>
 (bif (h:Int) !=0 then kr (h,())
 else rec (e,b,f,g,wI (a+1),())))
 else kx (e,b,()))
def q1z(aM:Val×Val×Unit->Option Y5)(n:Nat):Y9×Y9×Unit->Option Y5:=
 λ(a,b,_)=>
 a0a (λc=>x1s aM n c (λ(d,e,_)=>
 (bif decide (((d.length:Int):Int)<(e.length:Int))then some ((-1),())
 else some (0,()))) (λ(f,_)=>some (f,()))) (n) (a,b,a,(a.length:Int),0,())
def u0f{ρ:Type}(n:Nat)(kr:Int×Unit->Option ρ):Int->Int->Y5->(Y5->Option ρ)->Option ρ:=
 λc b (a,_) rec=>
 (bif (b:Int) !=a then kr (b,())
 else rec (a,()))
def y0j{ρ:Type}(n:Nat)(rec:Int×Y2×Int×Int×Unit->Option ρ)(kx:Int×Unit->Option ρ)(kr:Int×Unit->Option ρ):Int×Y2×Int×Int×Unit->Option ρ:=
 λ(a,c,d,b,_)=>
 (bif decide ((b:Int)<d)then
 (ix c b).bind λe=>
 (bif (e:Int) !=a then kr (e,())
 else rec (a,c,d,wI (b+1),()))
 else kx (a,()))
theorem n1a{ρ:Type}(n:Nat)(kx:Int×Unit->Option ρ)(kr:Int×Unit->Option ρ)(l:List Int)(fuel:Nat)(a:Int)(hl:l.length<=9223372036854775807)(hf:l.length<fuel):
  a0a (λrc=>y0j n rc kx kr) fuel (a,l,(l.length:Int),0,())=a0b (u0f n kr) (λ(a,_)=>kx (a,())) 0 l (a,()):=
 a0c l (λi (a,_)=>(a,l,(l.length:Int),i,())) _ _ _ (λrec i s=>rfl) hl fuel (a,()) hf
def c2w(n:Nat):Y2×Unit->Option Y5:=
 λ(a,_)=>
 a0a (λb=>y0j n b (λ(c,_)=>some (c,())) (λ(d,_)=>some (d,()))) (n) (0,a,(a.length:Int),0,())
def h1f(aM:Val×Val×Unit->Option Y5)(n:Nat):Val×Val×Unit->Option Y5:=
 λ(a,b,_)=>
 (q65z (a.kind,b.kind,())).bind λ(c,_)=>
 (bif (c:Int) !=0 then some (c,())
 else
 (q65z (a.n,b.n,())).bind λ(d,_)=>
 (q43z (a.s,b.s,())).bind λ(e,_)=>
 (q1z aM n (a.l,b.l,())).bind λ(f,_)=>
 (c2w n (([d,e,f]:List Int),())).bind λ(g,_)=>some (g,()))
def k0i:Nat->Val×Val×Unit->Option Y5
 | 0,_=>none
 |n+1,x=>h1f (k0i n) n x
def n1i:Bool×Unit->Option Y6:=
 λ(a,_)=>
 (bif a then some ((Val.mk 1 1 zb0 ([]:List Val)),())
 else some ((Val.mk 1 0 zb0 ([]:List Val)),()))
def j0x{ρ:Type}(aZ:Val×Val×Unit->Option Y6)(n:Nat)(rec:Int×Int×Y6×Y6×Y6×Y6×Unit->Option ρ)(kx:Y6×Y6×Unit->Option ρ)(kr:Y6×Unit->Option ρ):Int×Int×Y6×Y6×Y6×Y6×Unit->Option ρ:=
 λ(k,e,c,b,f,d,_)=>let j:=((Val.mk f.1.kind f.1.n f.1.s f.1.l),());
 (bif decide ((e:Int)<k)then
 (ix c.1.l e).bind λg=>
 (ix b.1.l e).bind λh=>
 (aZ ((Val.mk g.kind g.n g.s g.l),(Val.mk h.kind h.n h.s h.l),())).bind λ(a,_)=>
 (bif (a.kind:Int)==0 then rec (k,wI (e+1),((Val.mk c.1.kind c.1.n c.1.s c.1.l),()),((Val.mk b.1.kind b.1.n b.1.s b.1.l),()),j,((Val.mk a.kind a.n a.s a.l),()),())
 else
 (bif (a.n:Int)==0 then kr (((Val.mk a.kind a.n a.s a.l),()),())
 else rec (k,wI (e+1),((Val.mk c.1.kind c.1.n c.1.s c.1.l),()),((Val.mk b.1.kind b.1.n b.1.s b.1.l),()),j,((Val.mk d.1.kind d.1.n d.1.s d.1.l),()),())))
 else kx (j,((Val.mk d.1.kind d.1.n d.1.s d.1.l),()),()))
def h1o(aZ:Val×Val×Unit->Option Y6)(n:Nat):Val×Val×Unit->Option Y6:=
 λ(a,b,_)=>let h:=((Val.mk 0 0 zb0 ([]:List Val)),());
 (bif ((a.kind:Int)==0) || ((b.kind:Int)==0)then some h
 else
 (bif ((a.kind:Int) !=4) || ((b.kind:Int) !=4)then
 (k0i n ((Val.mk a.kind a.n a.s a.l),(Val.mk b.kind b.n b.s b.l),())).bind λ(j,_)=>
 (n1i ((j:Int)==0,())).bind λ(e,_)=>some ((Val.mk e.kind e.n e.s e.l),())
 else
 (bif ((a.l.length:Int):Int) !=(b.l.length:Int)then
 (n1i (false,())).bind λ(f,_)=>some ((Val.mk f.kind f.n f.s f.l),())
 else
 (n1i (true,())).bind λ(g,_)=>
 a0a (λi=>j0x aZ n i (λ(k,c,_)=>some ((Val.mk c.1.kind c.1.n c.1.s c.1.l),())) (λ(d,_)=>some ((Val.mk d.1.kind d.1.n d.1.s d.1.l),()))) (n) ((a.l.length:Int),0,((Val.mk a.kind a.n a.s a.l),()),((Val.mk b.kind b.n b.s b.l),()),h,((Val.mk g.kind g.n g.s g.l),()),()))))
def v0v:Nat->Val×Val×Unit->Option Y6
 | 0,_=>none
 |n+1,x=>h1o (v0v n) n x
def w0h(n:Nat):Val×Val×Unit->Option Y6:=
 λ(a,b,_)=>
 (bif ((a.kind:Int) !=b.kind) || (((a.kind:Int) !=2)&& ((a.kind:Int) !=3))then some ((Val.mk 0 0 zb0 ([]:List Val)),())
 else
 (k0i n ((Val.mk a.kind a.n a.s a.l),(Val.mk b.kind b.n b.s b.l),())).bind λ(d,_)=>
 (n1i (decide ((d:Int)<0),())).bind λ(c,_)=>some ((Val.mk c.kind c.n c.s c.l),()))
def c1k:Val×Unit->Option (Bool×Bool×Unit):=
 λ(a,_)=>some ((a.n:Int)==1,(a.kind:Int)==1,())
def r0d:Bool×Unit->Option Y6:=
 λ(a,_)=>
 (bif a then some ((Val.mk 1 1 zb0 ([]:List Val)),())
 else some ((Val.mk 1 0 zb0 ([]:List Val)),()))
def i0g:Val×Unit->Option Y6:=
 λ(a,_)=>
 (c1k ((Val.mk a.kind a.n a.s a.l),())).bind λ(c,d,_)=>
 (bif d then
 (r0d (!c,())).bind λ(b,_)=>some ((Val.mk b.kind b.n b.s b.l),())
 else some ((Val.mk 0 0 zb0 ([]:List Val)),()))
def t0k:Val×Val×Unit->Option Y6:=
 λ(a,b,_)=>
 (c1k ((Val.mk a.kind a.n a.s a.l),())).bind λ(g,e,_)=>
 (c1k ((Val.mk b.kind b.n b.s b.l),())).bind λ(h,f,_)=>
 (bif (e&&g) || (f&&h)then
 (r0d (true,())).bind λ(c,_)=>some ((Val.mk c.kind c.n c.s c.l),())
 else
 (bif e&&f then
 (r0d (false,())).bind λ(d,_)=>some ((Val.mk d.kind d.n d.s d.l),())
 else some ((Val.mk 0 0 zb0 ([]:List Val)),())))
def j0f{ρ:Type}(n:Nat)(kr:Unit->Option ρ):Int->Val->(Y9×Y6×Y6×Unit)->((Y9×Y6×Y6×Unit)->Option ρ)->Option ρ:=
 λh c (g,a,b,_) rec=>
 (ix g 0).bind λd=>
 (v0v n ((Val.mk d.kind d.n d.s d.l),(Val.mk c.kind c.n c.s c.l),())).bind λ(e,_)=>
 (t0k ((Val.mk b.1.kind b.1.n b.1.s b.1.l),(Val.mk e.kind e.n e.s e.l),())).bind λ(f,_)=>rec (g,((Val.mk a.1.kind a.1.n a.1.s a.1.l),()),((Val.mk f.kind f.n f.s f.l),()),())
def r0a{ρ:Type}(n:Nat)(rec:Y9×Y9×Int×Int×Y6×Y6×Unit->Option ρ)(kx:Y6×Y6×Unit->Option ρ)(kr:Unit->Option ρ):Y9×Y9×Int×Int×Y6×Y6×Unit->Option ρ:=
 λ(f,d,e,c,a,b,_)=>
 (bif decide ((c:Int)<e)then
 (ix d c).bind λk=>j0f n kr c k (f,a,b,()) (λ(g,h,j,_)=>rec (g,d,e,wI (c+1),h,j,()))
 else kx (((Val.mk a.1.kind a.1.n a.1.s a.1.l),()),((Val.mk b.1.kind b.1.n b.1.s b.1.l),()),()))
def m0g{ρ:Type}(n:Nat)(kr:Y6×Unit->Option ρ):Int->Val->(Y6×Unit)->((Y6×Unit)->Option ρ)->Option ρ:=
 λc a (b,_) rec=>
 (bif (a.kind:Int) !=0 then kr (((Val.mk a.kind a.n a.s a.l),()),())
 else rec (((Val.mk b.1.kind b.1.n b.1.s b.1.l),()),()))
def r0p{ρ:Type}(n:Nat)(rec:Y9×Int×Int×Y6×Unit->Option ρ)(kx:Y6×Unit->Option ρ)(kr:Y6×Unit->Option ρ):Y9×Int×Int×Y6×Unit->Option ρ:=
 λ(d,e,c,a,_)=>
 (bif decide ((c:Int)<e)then
 (ix d c).bind λb=>
 (bif (b.kind:Int) !=0 then kr (((Val.mk b.kind b.n b.s b.l),()),())
 else rec (d,e,wI (c+1),((Val.mk a.1.kind a.1.n a.1.s a.1.l),()),()))
 else kx (((Val.mk a.1.kind a.1.n a.1.s a.1.l),()),()))
theorem v1b{ρ:Type}(n:Nat)(kx:Y6×Y6×Unit->Option ρ)(kr:Unit->Option ρ)(l:List Val)(fuel:Nat)(c:List Val)(a:Val×Unit)(b:Val×Unit)(hl:l.length<=9223372036854775807)(hf:l.length<fuel):
  a0a (λrc=>r0a n rc kx kr) fuel (c,l,(l.length:Int),0,a,b,())=a0b (j0f n kr) (λ(c,a,b,_)=>kx (((Val.mk a.1.kind a.1.n a.1.s a.1.l),()),((Val.mk b.1.kind b.1.n b.1.s b.1.l),()),())) 0 l (c,a,b,()):=
 a0c l (λi (c,a,b,_)=>(c,l,(l.length:Int),i,a,b,())) _ _ _ (λrec i s=>rfl) hl fuel (c,a,b,()) hf
theorem u1f{ρ:Type}(n:Nat)(kx:Y6×Unit->Option ρ)(kr:Y6×Unit->Option ρ)(l:List Val)(fuel:Nat)(a:Val×Unit)(hl:l.length<=9223372036854775807)(hf:l.length<fuel):
  a0a (λrc=>r0p n rc kx kr) fuel (l,(l.length:Int),0,a,())=a0b (m0g n kr) (λ(a,_)=>kx (((Val.mk a.1.kind a.1.n a.1.s a.1.l),()),())) 0 l (a,()):=
 a0c l (λi (a,_)=>(l,(l.length:Int),i,a,())) _ _ _ (λrec i s=>rfl) hl fuel (a,()) hf
def q81z(n:Nat):Envr×Term×Y9×Unit->Option Y6:=
 λ(d,b,a,_)=>let c:=((Val.mk 0 0 zb0 ([]:List Val)),());
 (bif seq b.name zb1 then
 (bif seq b.name zb1 then
 (ix a 0).bind λx7=>
 (ix a 1).bind λx8=>
 (q88z n (b.name,(Val.mk x7.kind x7.n x7.s x7.l),(Val.mk x8.kind x8.n x8.s x8.l),())).bind λ(f,fa,_)=>
 (j0k n ((Val.mk f.kind f.n f.s f.l),())).bind λ(eo,_)=>
 (bif (eo:Int) !=0 then some c
 else some ((Val.mk f.kind f.n f.s f.l),()))
 else
 (bif seq b.name zb15 then
 (ix a 0).bind λad=>
 (ix a 1).bind λaf=>
 (v0v n ((Val.mk ad.kind ad.n ad.s ad.l),(Val.mk af.kind af.n af.s af.l),())).bind λ(bz,_)=>some ((Val.mk bz.kind bz.n bz.s bz.l),())
 else
 (bif seq b.name zb16 then
 (ix a 0).bind λav=>
 (ix a 1).bind λax=>
 (w0h n ((Val.mk av.kind av.n av.s av.l),(Val.mk ax.kind ax.n ax.s ax.l),())).bind λ(cm,_)=>some ((Val.mk cm.kind cm.n cm.s cm.l),())
 else
 (bif seq b.name zb11 then
 (ix a 1).bind λaz=>
 (ix a 0).bind λba=>
 (w0h n ((Val.mk az.kind az.n az.s az.l),(Val.mk ba.kind ba.n ba.s ba.l),())).bind λ(cn,_)=>
 (i0g ((Val.mk cn.kind cn.n cn.s cn.l),())).bind λ(co,_)=>some ((Val.mk co.kind co.n co.s co.l),())
 else
 (bif seq b.name zb12 then
 (ix a 0).bind λbb=>
 (i0g ((Val.mk bb.kind bb.n bb.s bb.l),())).bind λ(cp,_)=>
 (ix a 1).bind λbc=>
 (i0g ((Val.mk bc.kind bc.n bc.s bc.l),())).bind λ(cq,_)=>
 (t0k ((Val.mk cp.kind cp.n cp.s cp.l),(Val.mk cq.kind cq.n cq.s cq.l),())).bind λ(cr,_)=>
 (i0g ((Val.mk cr.kind cr.n cr.s cr.l),())).bind λ(cs,_)=>some ((Val.mk cs.kind cs.n cs.s cs.l),())
 else
 (bif seq b.name zb13 then
 (ix a 0).bind λbd=>
 (ix a 1).bind λbe=>
 (t0k ((Val.mk bd.kind bd.n bd.s bd.l),(Val.mk be.kind be.n be.s be.l),())).bind λ(ct,_)=>some ((Val.mk ct.kind ct.n ct.s ct.l),())
 else
 (bif seq b.name zb7 then
 (ix a 0).bind λbf=>
 (i0g ((Val.mk bf.kind bf.n bf.s bf.l),())).bind λ(cu,_)=>some ((Val.mk cu.kind cu.n cu.s cu.l),())
 else
 (bif seq b.name zb4 then
 (ix a 0).bind λef=>
 (r0d ((ef.kind:Int)==0,())).bind λ(cv,_)=>some ((Val.mk cv.kind cv.n cv.s cv.l),())
 else
 (bif seq b.name zb18 then
 (ix a 1).bind λeg=>
 (bif (eg.kind:Int) !=4 then some c
 else
 (r0d (false,())).bind λ(cw,_)=>
 (ix a 1).bind λdb=>
 a0a (λdk=>r0a n dk (λ(ey,o,_)=>some ((Val.mk o.1.kind o.1.n o.1.s o.1.l),())) (λ(_)=>none)) (n) (a,db.l,(db.l.length:Int),0,c,((Val.mk cw.kind cw.n cw.s cw.l),()),()))
 else
 (bif seq b.name zb8 then
 (ix a 0).bind λdc=>
 (bif (dc.kind:Int)==3 then
 (ix a 0).bind λeh=>some ((Val.mk 2 ((b0b eh.s).length:Int) zb0 ([]:List Val)),())
 else
 (bif (dc.kind:Int)==4 then
 (ix a 0).bind λei=>some ((Val.mk 2 (ei.l.length:Int) zb0 ([]:List Val)),())
 else some c))
 else
 (bif seq b.name zb9 then
 (ix a 0).bind λej=>
 (bif (ej.kind:Int)==4 then
 (ix a 0).bind λek=>
 (bif decide (((ek.l.length:Int):Int) >0)then
 (ix a 0).bind λel=>
 (ix el.l 0).bind λbh=>some ((Val.mk bh.kind bh.n bh.s bh.l),())
 else some c)
 else some c)
 else
 (bif seq b.name zb10 then
 a0a (λdl=>r0p n dl (λ(ez,_)=>some c) (λ(p,_)=>some ((Val.mk p.1.kind p.1.n p.1.s p.1.l),()))) (n) (a,(a.length:Int),0,c,())
 else
 (bif seq b.name zb19 then
 (j0k n ((Val.mk 4 0 zb0 a),())).bind λ(es,_)=>
 (bif (es:Int)==0 then some ((Val.mk 4 0 zb0 a),())
 else some c)
 else
 (bif seq b.name zb5 then
 (ix a 0).bind λbj=>some ((Val.mk bj.kind bj.n bj.s bj.l),())
 else
 (bif seq b.name zb6 then
 (ix a 0).bind λem=>
 (q72z n ((Graph.mk d.g.nodes d.g.edges d.g.next),em.n,())).bind λ(df,_)=>
 (bif decide ((df:Int) >=0)then
 (ix d.g.edges df).bind λen=>some ((Val.mk 3 0 en.type ([]:List Val)),())
 else some c)
 else some c)))))))))))))))
 else
 (bif seq b.name zb2 then
 (bif seq b.name zb2 then
 (ix a 0).bind λbk=>
 (ix a 1).bind λbl=>
 (q88z n (b.name,(Val.mk bk.kind bk.n bk.s bk.l),(Val.mk bl.kind bl.n bl.s bl.l),())).bind λ(h,fc,_)=>
 (j0k n ((Val.mk h.kind h.n h.s h.l),())).bind λ(et,_)=>
 (bif (et:Int) !=0 then some c
 else some ((Val.mk h.kind h.n h.s h.l),()))
 else
 (bif seq b.name zb15 then
 (ix a 0).bind λq=>
 (ix a 1).bind λr=>
 (v0v n ((Val.mk q.kind q.n q.s q.l),(Val.mk r.kind r.n r.s r.l),())).bind λ(bm,_)=>some ((Val.mk bm.kind bm.n bm.s bm.l),())
 else
 (bif seq b.name zb16 then
 (ix a 0).bind λt=>
 (ix a 1).bind λu=>
 (w0h n ((Val.mk t.kind t.n t.s t.l),(Val.mk u.kind u.n u.s u.l),())).bind λ(bn,_)=>some ((Val.mk bn.kind bn.n bn.s bn.l),())
 else
 (bif seq b.name zb11 then
 (ix a 1).bind λv=>
 (ix a 0).bind λw=>
 (w0h n ((Val.mk v.kind v.n v.s v.l),(Val.mk w.kind w.n w.s w.l),())).bind λ(bo,_)=>
 (i0g ((Val.mk bo.kind bo.n bo.s bo.l),())).bind λ(bp,_)=>some ((Val.mk bp.kind bp.n bp.s bp.l),())
 else
 (bif seq b.name zb12 then
 (ix a 0).bind λx=>
 (i0g ((Val.mk x.kind x.n x.s x.l),())).bind λ(bq,_)=>
 (ix a 1).bind λy=>
 (i0g ((Val.mk y.kind y.n y.s y.l),())).bind λ(br,_)=>
 (t0k ((Val.mk bq.kind bq.n bq.s bq.l),(Val.mk br.kind br.n br.s br.l),())).bind λ(bs,_)=>
 (i0g ((Val.mk bs.kind bs.n bs.s bs.l),())).bind λ(bt,_)=>some ((Val.mk bt.kind bt.n bt.s bt.l),())
 else
 (bif seq b.name zb13 then
 (ix a 0).bind λz=>
 (ix a 1).bind λaa=>
 (t0k ((Val.mk z.kind z.n z.s z.l),(Val.mk aa.kind aa.n aa.s aa.l),())).bind λ(bu,_)=>some ((Val.mk bu.kind bu.n bu.s bu.l),())
 else
 (bif seq b.name zb7 then
 (ix a 0).bind λab=>
 (i0g ((Val.mk ab.kind ab.n ab.s ab.l),())).bind λ(bv,_)=>some ((Val.mk bv.kind bv.n bv.s bv.l),())
 else
 (bif seq b.name zb4 then
 (ix a 0).bind λdm=>
 (r0d ((dm.kind:Int)==0,())).bind λ(bw,_)=>some ((Val.mk bw.kind bw.n bw.s bw.l),())
 else
 (bif seq b.name zb18 then
 (ix a 1).bind λdn=>
 (bif (dn.kind:Int) !=4 then some c
 else
 (r0d (false,())).bind λ(bx,_)=>
 (ix a 1).bind λcx=>
 a0a (λdg=>r0a n dg (λ(eu,i,_)=>some ((Val.mk i.1.kind i.1.n i.1.s i.1.l),())) (λ(_)=>none)) (n) (a,cx.l,(cx.l.length:Int),0,c,((Val.mk bx.kind bx.n bx.s bx.l),()),()))
 else
 (bif seq b.name zb8 then
 (ix a 0).bind λcy=>
 (bif (cy.kind:Int)==3 then
 (ix a 0).bind λdp=>some ((Val.mk 2 ((b0b dp.s).length:Int) zb0 ([]:List Val)),())
 else
 (bif (cy.kind:Int)==4 then
 (ix a 0).bind λdq=>some ((Val.mk 2 (dq.l.length:Int) zb0 ([]:List Val)),())
 else some c))
 else
 (bif seq b.name zb9 then
 (ix a 0).bind λdr=>
 (bif (dr.kind:Int)==4 then
 (ix a 0).bind λds=>
 (bif decide (((ds.l.length:Int):Int) >0)then
 (ix a 0).bind λdt=>
 (ix dt.l 0).bind λac=>some ((Val.mk ac.kind ac.n ac.s ac.l),())
 else some c)
 else some c)
 else
 (bif seq b.name zb10 then
 a0a (λdh=>r0p n dh (λ(ev,_)=>some c) (λ(j,_)=>some ((Val.mk j.1.kind j.1.n j.1.s j.1.l),()))) (n) (a,(a.length:Int),0,c,())
 else
 (bif seq b.name zb19 then
 (j0k n ((Val.mk 4 0 zb0 a),())).bind λ(ep,_)=>
 (bif (ep:Int)==0 then some ((Val.mk 4 0 zb0 a),())
 else some c)
 else
 (bif seq b.name zb5 then
 (ix a 0).bind λae=>some ((Val.mk ae.kind ae.n ae.s ae.l),())
 else
 (bif seq b.name zb6 then
 (ix a 0).bind λdu=>
 (q72z n ((Graph.mk d.g.nodes d.g.edges d.g.next),du.n,())).bind λ(dd,_)=>
 (bif decide ((dd:Int) >=0)then
 (ix d.g.edges dd).bind λdv=>some ((Val.mk 3 0 dv.type ([]:List Val)),())
 else some c)
 else some c)))))))))))))))
 else
 (bif seq b.name zb3 then
 (ix a 0).bind λag=>
 (ix a 1).bind λah=>
 (q88z n (b.name,(Val.mk ag.kind ag.n ag.s ag.l),(Val.mk ah.kind ah.n ah.s ah.l),())).bind λ(e,fb,_)=>
 (j0k n ((Val.mk e.kind e.n e.s e.l),())).bind λ(eq,_)=>
 (bif (eq:Int) !=0 then some c
 else some ((Val.mk e.kind e.n e.s e.l),()))
 else
 (bif seq b.name zb15 then
 (ix a 0).bind λai=>
 (ix a 1).bind λaj=>
 (v0v n ((Val.mk ai.kind ai.n ai.s ai.l),(Val.mk aj.kind aj.n aj.s aj.l),())).bind λ(ca,_)=>some ((Val.mk ca.kind ca.n ca.s ca.l),())
 else
 (bif seq b.name zb16 then
 (ix a 0).bind λak=>
 (ix a 1).bind λal=>
 (w0h n ((Val.mk ak.kind ak.n ak.s ak.l),(Val.mk al.kind al.n al.s al.l),())).bind λ(cb,_)=>some ((Val.mk cb.kind cb.n cb.s cb.l),())
 else
 (bif seq b.name zb11 then
 (ix a 1).bind λam=>
 (ix a 0).bind λan=>
 (w0h n ((Val.mk am.kind am.n am.s am.l),(Val.mk an.kind an.n an.s an.l),())).bind λ(cc,_)=>
 (i0g ((Val.mk cc.kind cc.n cc.s cc.l),())).bind λ(cd,_)=>some ((Val.mk cd.kind cd.n cd.s cd.l),())
 else
 (bif seq b.name zb12 then
 (ix a 0).bind λao=>
 (i0g ((Val.mk ao.kind ao.n ao.s ao.l),())).bind λ(ce,_)=>
 (ix a 1).bind λap=>
 (i0g ((Val.mk ap.kind ap.n ap.s ap.l),())).bind λ(cf,_)=>
 (t0k ((Val.mk ce.kind ce.n ce.s ce.l),(Val.mk cf.kind cf.n cf.s cf.l),())).bind λ(cg,_)=>
 (i0g ((Val.mk cg.kind cg.n cg.s cg.l),())).bind λ(ch,_)=>some ((Val.mk ch.kind ch.n ch.s ch.l),())
 else
 (bif seq b.name zb13 then
 (ix a 0).bind λaq=>
 (ix a 1).bind λar=>
 (t0k ((Val.mk aq.kind aq.n aq.s aq.l),(Val.mk ar.kind ar.n ar.s ar.l),())).bind λ(ci,_)=>some ((Val.mk ci.kind ci.n ci.s ci.l),())
 else
 (bif seq b.name zb7 then
 (ix a 0).bind λau=>
 (i0g ((Val.mk au.kind au.n au.s au.l),())).bind λ(cj,_)=>some ((Val.mk cj.kind cj.n cj.s cj.l),())
 else
 (bif seq b.name zb4 then
 (ix a 0).bind λdw=>
 (r0d ((dw.kind:Int)==0,())).bind λ(ck,_)=>some ((Val.mk ck.kind ck.n ck.s ck.l),())
 else
 (bif seq b.name zb18 then
 (ix a 1).bind λdx=>
 (bif (dx.kind:Int) !=4 then some c
 else
 (r0d (false,())).bind λ(cl,_)=>
 (ix a 1).bind λcz=>
 a0a (λdi=>r0a n di (λ(ew,k,_)=>some ((Val.mk k.1.kind k.1.n k.1.s k.1.l),())) (λ(_)=>none)) (n) (a,cz.l,(cz.l.length:Int),0,c,((Val.mk cl.kind cl.n cl.s cl.l),()),()))
 else
 (bif seq b.name zb8 then
 (ix a 0).bind λda=>
 (bif (da.kind:Int)==3 then
 (ix a 0).bind λdy=>some ((Val.mk 2 ((b0b dy.s).length:Int) zb0 ([]:List Val)),())
 else
 (bif (da.kind:Int)==4 then
 (ix a 0).bind λdz=>some ((Val.mk 2 (dz.l.length:Int) zb0 ([]:List Val)),())
 else some c))
 else
 (bif seq b.name zb9 then
 (ix a 0).bind λea=>
 (bif (ea.kind:Int)==4 then
 (ix a 0).bind λeb=>
 (bif decide (((eb.l.length:Int):Int) >0)then
 (ix a 0).bind λec=>
 (ix ec.l 0).bind λaw=>some ((Val.mk aw.kind aw.n aw.s aw.l),())
 else some c)
 else some c)
 else
 (bif seq b.name zb10 then
 a0a (λdj=>r0p n dj (λ(ex,_)=>some c) (λ(m,_)=>some ((Val.mk m.1.kind m.1.n m.1.s m.1.l),()))) (n) (a,(a.length:Int),0,c,())
 else
 (bif seq b.name zb19 then
 (j0k n ((Val.mk 4 0 zb0 a),())).bind λ(er,_)=>
 (bif (er:Int)==0 then some ((Val.mk 4 0 zb0 a),())
 else some c)
 else
 (bif seq b.name zb5 then
 (ix a 0).bind λay=>some ((Val.mk ay.kind ay.n ay.s ay.l),())
 else
 (bif seq b.name zb6 then
 (ix a 0).bind λed=>
 (q72z n ((Graph.mk d.g.nodes d.g.edges d.g.next),ed.n,())).bind λ(de,_)=>
 (bif decide ((de:Int) >=0)then
 (ix d.g.edges de).bind λee=>some ((Val.mk 3 0 ee.type ([]:List Val)),())
 else some c)
 else some c)))))))))))))))))
def j0d{ρ:Type}(aO:Envr×Term×Unit->Option Y6)(n:Nat)(kr:Unit->Option ρ):Int->Term->(Y25×Y12×Y6×Y9×Unit)->((Y25×Y12×Y6×Y9×Unit)->Option ρ)->Option ρ:=
 λj d (e,c,f,h,_) rec=>let i:=(Envr.mk (Graph.mk e.1.g.nodes e.1.g.edges e.1.g.next) e.1.at_);
 (aO (i,(Term.mk d.kind (Val.mk d.v.kind d.v.n d.v.s d.v.l) d.name d.a),())).bind λ(b,_)=>
 ck (room (h++([(Val.mk b.kind b.n b.s b.l)]:List Val)).length 56) (rec ((i,()),((Term.mk c.1.kind (Val.mk c.1.v.kind c.1.v.n c.1.v.s c.1.v.l) c.1.name c.1.a),()),((Val.mk f.1.kind f.1.n f.1.s f.1.l),()),h++([(Val.mk b.kind b.n b.s b.l)]:List Val),()))
def d1m{ρ:Type}(aO:Envr×Term×Unit->Option Y6)(n:Nat)(rec:Y33×Int×Int×Y25×Y12×Y6×Y9×Unit->Option ρ)(kx:Y25×Y12×Y6×Y9×Unit->Option ρ)(kr:Unit->Option ρ):Y33×Int×Int×Y25×Y12×Y6×Y9×Unit->Option ρ:=
 λ(h,j,e,c,b,d,f,_)=>
 (bif decide ((e:Int)<j)then
 (ix h e).bind λq=>j0d aO n kr e q (c,b,d,f,()) (λ(k,m,o,p,_)=>rec (h,j,wI (e+1),k,m,o,p,()))
 else kx (((Envr.mk (Graph.mk c.1.g.nodes c.1.g.edges c.1.g.next) c.1.at_),()),((Term.mk b.1.kind (Val.mk b.1.v.kind b.1.v.n b.1.v.s b.1.v.l) b.1.name b.1.a),()),((Val.mk d.1.kind d.1.n d.1.s d.1.l),()),f,()))
theorem s1s{ρ:Type}(aO:Envr×Term×Unit->Option Y6)(n:Nat)(kx:Y25×Y12×Y6×Y9×Unit->Option ρ)(kr:Unit->Option ρ)(l:List Term)(fuel:Nat)(c:Envr×Unit)(b:Term×Unit)(d:Val×Unit)(e:List Val)(hl:l.length<=9223372036854775807)(hf:l.length<fuel):
  a0a (λrc=>d1m aO n rc kx kr) fuel (l,(l.length:Int),0,c,b,d,e,())=a0b (j0d aO n kr) (λ(c,b,d,e,_)=>kx (((Envr.mk (Graph.mk c.1.g.nodes c.1.g.edges c.1.g.next) c.1.at_),()),((Term.mk b.1.kind (Val.mk b.1.v.kind b.1.v.n b.1.v.s b.1.v.l) b.1.name b.1.a),()),((Val.mk d.1.kind d.1.n d.1.s d.1.l),()),e,())) 0 l (c,b,d,e,()):=
 a0c l (λi (c,b,d,e,_)=>(l,(l.length:Int),i,c,b,d,e,())) _ _ _ (λrec i s=>rfl) hl fuel (c,b,d,e,()) hf
def b1q(aO:Envr×Term×Unit->Option Y6)(n:Nat):Envr×Term×Unit->Option Y6:=
 λ(d,b,_)=>let k:=(Envr.mk (Graph.mk d.g.nodes d.g.edges d.g.next) d.at_);
 (bif (b.kind:Int)==1 then
 (i0j n ((Val.mk b.v.kind b.v.n b.v.s b.v.l),())).bind λ(h,_)=>some ((Val.mk h.kind h.n h.s h.l),())
 else
 (bif (b.kind:Int)==2 then some ((Val.mk 2 (a0k .str .i64 0 d.at_ b.name) zb0 ([]:List Val)),())
 else
 (bif (b.kind:Int)==3 then
 (ix b.a 0).bind λp=>
 (q75z n (k,(a0k .str .i64 0 d.at_ p.name),b.name,())).bind λ(j,_)=>some ((Val.mk j.kind j.n j.s j.l),())
 else
 a0a (λo=>d1m aO n o (λ(e,c,q,m,_)=>
 (q81z n ((Envr.mk (Graph.mk e.1.g.nodes e.1.g.edges e.1.g.next) e.1.at_),(Term.mk c.1.kind (Val.mk c.1.v.kind c.1.v.n c.1.v.s c.1.v.l) c.1.name c.1.a),m,())).bind λ(f,_)=>some ((Val.mk f.kind f.n f.s f.l),())) (λ(_)=>none)) (n) (b.a,(b.a.length:Int),0,(k,()),((Term.mk b.kind (Val.mk b.v.kind b.v.n b.v.s b.v.l) b.name b.a),()),((Val.mk 0 0 zb0 ([]:List Val)),()),([]:List Val),()))))
def q74z:Nat->Envr×Term×Unit->Option Y6
 | 0,_=>none
 |n+1,x=>b1q (q74z n) n x
def m0f{ρ:Type}(n:Nat)(kr:Bool×Unit->Option ρ):Int->Term->(Y25×Unit)->((Y25×Unit)->Option ρ)->Option ρ:=
 λi b (c,_) rec=>let e:=(Envr.mk (Graph.mk c.1.g.nodes c.1.g.edges c.1.g.next) c.1.at_);
 (q74z n (e,(Term.mk b.kind (Val.mk b.v.kind b.v.n b.v.s b.v.l) b.name b.a),())).bind λ(d,_)=>
 (c1k ((Val.mk d.kind d.n d.s d.l),())).bind λ(h,f,_)=>
 (bif (!f) || (!h)then kr (false,())
 else rec ((e,()),()))
def h1p{ρ:Type}(n:Nat)(rec:Y33×Int×Int×Y25×Unit->Option ρ)(kx:Unit->Option ρ)(kr:Bool×Unit->Option ρ):Y33×Int×Int×Y25×Unit->Option ρ:=
 λ(b,c,a,d,_)=>
 (bif decide ((a:Int)<c)then
 (ix b a).bind λf=>m0f n kr a f (d,()) (λ(e,_)=>rec (b,c,wI (a+1),e,()))
 else kx (()))
theorem w1o{ρ:Type}(n:Nat)(kx:Unit->Option ρ)(kr:Bool×Unit->Option ρ)(l:List Term)(fuel:Nat)(a:Envr×Unit)(hl:l.length<=9223372036854775807)(hf:l.length<fuel):
  a0a (λrc=>h1p n rc kx kr) fuel (l,(l.length:Int),0,a,())=a0b (m0f n kr) (λ(a,_)=>kx (())) 0 l (a,()):=
 a0c l (λi (a,_)=>(l,(l.length:Int),i,a,())) _ _ _ (λrec i s=>rfl) hl fuel (a,()) hf
def q69z(n:Nat):Envr×Y33×Unit->Option Y11:=
 λ(a,b,_)=>
 a0a (λc=>h1p n c (λ(_)=>some (true,())) (λ(d,_)=>some (d,()))) (n) (b,(b.length:Int),0,((Envr.mk (Graph.mk a.g.nodes a.g.edges a.g.next) a.at_),()),())
def q95z:Y2×Unit×Y30×Y11×Unit->Option (Y2×Unit×Y30×Y11×Unit):=
 λ(b,e,a,d,_)=>
 (bif ((a.length:Int):Int)==2000 then some (b,(()),a,(true,()),())
 else
 (q29z (b,())).bind λ(c,_)=>
 ck (room (a++([c]:List Y2)).length 24) (some (b,(()),a++([c]:List Y2),(d.1,()),())))
def q55z(n:Nat):Int×Ev.Node×Y0×Unit->Option (Bool×Y0×Unit):=
 λ(d,e,a,_)=>let b:=((Query.mk a.1.dots a.1.arrows a.1.wher a.1.items a.1.dist),(Graph.mk a.2.1.nodes a.2.1.edges a.2.1.next),a.2.2.1,());
 (ix a.1.dots d).bind λc=>
 (bif seq c.label zb0 then some (true,b,())
 else
 (q26z n (e.labels,c.label,())).bind λ(f,_)=>some (f,b,()))
def s0m{ρ:Type}(n:Nat)(rec:Int×Int×Int×Y0×Y2×Unit->Option ρ)(kx:Y0×Y2×Unit->Option ρ)(kr:Bool×Y0×Y2×Unit->Option ρ):Int×Int×Int×Y0×Y2×Unit->Option ρ:=
 λ(d,f,c,a,b,_)=>let e:=((Query.mk a.1.dots a.1.arrows a.1.wher a.1.items a.1.dist),(Graph.mk a.2.1.nodes a.2.1.edges a.2.1.next),a.2.2.1,());
 (bif decide ((c:Int)<f)then
 (ix a.1.dots c).bind λj=>
 (bif !(seq j.name zb0)then
 (ix a.1.dots c).bind λk=>
 (ix a.1.dots d).bind λl=>
 (bif seq k.name l.name then
 (ix b c).bind λ_=>
 ((b)[(c:Int).toNat]?).bind λg=>
 (ix b d).bind λ_=>
 ((b)[(d:Int).toNat]?).bind λh=>
 (bif (g:Int) !=h then kr (false,e,b,())
 else rec (d,f,wI (c+1),e,b,()))
 else rec (d,f,wI (c+1),e,b,()))
 else rec (d,f,wI (c+1),e,b,()))
 else kx (e,b,()))
def q44z(n:Nat):Int×Y0×Y2×Unit->Option (Bool×Y0×Y2×Unit):=
 λ(d,b,g,_)=>
 a0a (λh=>s0m n h (λ(a,e,_)=>some (true,((Query.mk a.1.dots a.1.arrows a.1.wher a.1.items a.1.dist),(Graph.mk a.2.1.nodes a.2.1.edges a.2.1.next),a.2.2.1,()),e,())) (λ(i,c,f,_)=>some (i,((Query.mk c.1.dots c.1.arrows c.1.wher c.1.items c.1.dist),(Graph.mk c.2.1.nodes c.2.1.edges c.2.1.next),c.2.2.1,()),f,()))) (n) (d,d,0,((Query.mk b.1.dots b.1.arrows b.1.wher b.1.items b.1.dist),(Graph.mk b.2.1.nodes b.2.1.edges b.2.1.next),b.2.2.1,()),g,())
def j0j{ρ:Type}(aD:Int×Y0×Y2×Unit×Y30×Y11×Unit->Option Y14)(n:Nat)(kr:Unit->Option ρ):Int->Edg->Y24->(Y24->Option ρ)->Option ρ:=
 λy g (d,e,h,j,p,q,r,c,a,w,k,l,f,_) rec=>let o:=((Ev.Arrow.mk c.1.name c.1.type c.1.back c.1.many),());let m:=((Query.mk a.1.dots a.1.arrows a.1.wher a.1.items a.1.dist),(Graph.mk a.2.1.nodes a.2.1.edges a.2.1.next),a.2.2.1,());
 (bif (((g.src:Int)==h)&& ((g.dst:Int)==j))&& ((seq c.1.type zb0) || (seq g.type c.1.type))then
 (ix f (wI ((wI (e+d)) - 1))).bind λ_=>
 ((f)[(wI ((wI (e+d)) - 1):Int).toNat]?).bind λv=>
 (aD (wI (d+1),m,(f).set ((wI ((wI (e+d)) - 1):Int).toNat) g.id,(()),k,(l.1,()),())).bind λ(b,u,x,s,t,_)=>rec (d,e,h,j,p,q,r,o,((Query.mk b.1.dots b.1.arrows b.1.wher b.1.items b.1.dist),(Graph.mk b.2.1.nodes b.2.1.edges b.2.1.next),b.2.2.1,()),(()),s,(t.1,()),u,())
 else rec (d,e,h,j,p,q,r,o,m,(()),k,(l.1,()),f,()))
def x0h{ρ:Type}(aD:Int×Y0×Y2×Unit×Y30×Y11×Unit->Option Y14)(n:Nat)(rec:Int×Int×Int×Int×Y17×Int×Int×Y43×Int×Int×(Ev.Arrow×Unit)×Y0×Unit×Y30×Y11×Y2×Unit->Option ρ)(kx:Int×Int×Y17×Int×Int×Y0×Unit×Y30×Y11×Y2×Unit->Option ρ)(kr:Unit->Option ρ):Int×Int×Int×Int×Y17×Int×Int×Y43×Int×Int×(Ev.Arrow×Unit)×Y0×Unit×Y30×Y11×Y2×Unit->Option ρ:=
 λ(f,g,q,r,h,j,k,l,m,b,o,a,p,c,d,e,_)=>
 (bif decide ((b:Int)<m)then
 (ix l b).bind λaf=>j0j aD n kr b af (f,g,q,r,h,j,k,o,a,p,c,d,e,()) (λ(s,t,w2,w3,w4,w5,w6,u,v,w,x,y,z,_)=>rec (s,t,w2,w3,w4,w5,w6,l,m,wI (b+1),u,v,w,x,y,z,()))
 else kx (f,g,h,j,k,((Query.mk a.1.dots a.1.arrows a.1.wher a.1.items a.1.dist),(Graph.mk a.2.1.nodes a.2.1.edges a.2.1.next),a.2.2.1,()),(()),c,(d.1,()),e,()))
def l0e{ρ:Type}(aD:Int×Y0×Y2×Unit×Y30×Y11×Unit->Option Y14)(n:Nat)(rec:Int×Int×Y17×Int×Int×Y0×Unit×Y30×Y11×Y2×Unit->Option ρ)(kx:Y0×Unit×Y30×Y11×Y2×Unit->Option ρ)(kr:Unit->Option ρ):Int×Int×Y17×Int×Int×Y0×Unit×Y30×Y11×Y2×Unit->Option ρ:=
 λ(a,c,h,j,e,o,bn,f,g,v,_)=>let x:=((Query.mk o.1.dots o.1.arrows o.1.wher o.1.items o.1.dist),(Graph.mk o.2.1.nodes o.2.1.edges o.2.1.next),o.2.2.1,());
 (bif decide ((e:Int)<j)then
 (ix h e).bind λt=>
 (q55z n (a,(Ev.Node.mk t.id t.labels t.props),x,())).bind λ(bf,p,_)=>let y:=((Query.mk p.1.dots p.1.arrows p.1.wher p.1.items p.1.dist),(Graph.mk p.2.1.nodes p.2.1.edges p.2.1.next),p.2.2.1,());
 (bif !bf then rec (a,c,h,j,wI (e+1),y,(()),f,(g.1,()),v,())
 else
 (ix v a).bind λ_=>
 ((v)[(a:Int).toNat]?).bind λbi=>
 (q44z n (a,y,(v).set ((a:Int).toNat) t.id,())).bind λ(bg,b,d,_)=>let s:=((Query.mk b.1.dots b.1.arrows b.1.wher b.1.items b.1.dist),(Graph.mk b.2.1.nodes b.2.1.edges b.2.1.next),b.2.2.1,());
 (bif !bg then rec (a,c,h,j,wI (e+1),s,(()),f,(g.1,()),d,())
 else
 (bif (a:Int)==0 then
 (aD (1,s,d,(()),f,(g.1,()),())).bind λ(q,aj,bo,ak,al,_)=>rec (a,c,h,j,wI (e+1),((Query.mk q.1.dots q.1.arrows q.1.wher q.1.items q.1.dist),(Graph.mk q.2.1.nodes q.2.1.edges q.2.1.next),q.2.2.1,()),(()),ak,(al.1,()),aj,())
 else
 (ix b.1.arrows (wI (a - 1))).bind λu=>let z:=((Ev.Arrow.mk u.name u.type u.back u.many),());
 (ix d (wI (a - 1))).bind λ_=>
 ((d)[(wI (a - 1):Int).toNat]?).bind λw=>
 (bif u.back then
 (bif u.many then
 (ix b.2.2.1 (wI (a - 1))).bind λbe=>
 (bif (a0k .pair .bool false be (Ev.Pair.mk t.id w))then
 (ix d (wI ((wI (c+a)) - 1))).bind λ_=>
 ((d)[(wI ((wI (c+a)) - 1):Int).toNat]?).bind λbj=>
 (aD (wI (a+1),s,(d).set ((wI ((wI (c+a)) - 1):Int).toNat) 0,(()),f,(g.1,()),())).bind λ(r,am,bp,an,ao,_)=>rec (a,c,h,j,wI (e+1),((Query.mk r.1.dots r.1.arrows r.1.wher r.1.items r.1.dist),(Graph.mk r.2.1.nodes r.2.1.edges r.2.1.next),r.2.2.1,()),(()),an,(ao.1,()),am,())
 else rec (a,c,h,j,wI (e+1),s,(()),f,(g.1,()),d,()))
 else
 a0a (λap=>x0h aD n ap (λ(ar,au,av,aw,ax,k,bk,aa,ab,ac,_)=>rec (ar,au,av,aw,wI (ax+1),((Query.mk k.1.dots k.1.arrows k.1.wher k.1.items k.1.dist),(Graph.mk k.2.1.nodes k.2.1.edges k.2.1.next),k.2.2.1,()),(()),aa,(ab.1,()),ac,())) (λ(_)=>none)) (n) (a,c,t.id,w,h,j,e,b.2.1.edges,(b.2.1.edges.length:Int),0,z,s,(()),f,(g.1,()),d,()))
 else
 (bif u.many then
 (ix b.2.2.1 (wI (a - 1))).bind λbd=>
 (bif (a0k .pair .bool false bd (Ev.Pair.mk w t.id))then
 (ix d (wI ((wI (c+a)) - 1))).bind λ_=>
 ((d)[(wI ((wI (c+a)) - 1):Int).toNat]?).bind λbh=>
 (aD (wI (a+1),s,(d).set ((wI ((wI (c+a)) - 1):Int).toNat) 0,(()),f,(g.1,()),())).bind λ(l,ad,bl,ae,af,_)=>rec (a,c,h,j,wI (e+1),((Query.mk l.1.dots l.1.arrows l.1.wher l.1.items l.1.dist),(Graph.mk l.2.1.nodes l.2.1.edges l.2.1.next),l.2.2.1,()),(()),ae,(af.1,()),ad,())
 else rec (a,c,h,j,wI (e+1),s,(()),f,(g.1,()),d,()))
 else
 a0a (λaq=>x0h aD n aq (λ(ay,az,ba,bb,bc,m,bm,ag,ah,ai,_)=>rec (ay,az,ba,bb,wI (bc+1),((Query.mk m.1.dots m.1.arrows m.1.wher m.1.items m.1.dist),(Graph.mk m.2.1.nodes m.2.1.edges m.2.1.next),m.2.2.1,()),(()),ag,(ah.1,()),ai,())) (λ(_)=>none)) (n) (a,c,w,t.id,h,j,e,b.2.1.edges,(b.2.1.edges.length:Int),0,z,s,(()),f,(g.1,()),d,()))))))
 else kx (x,(()),f,(g.1,()),v,()))
theorem b1a{ρ:Type}(aD:Int×Y0×Y2×Unit×Y30×Y11×Unit->Option Y14)(n:Nat)(kx:Int×Int×Y17×Int×Int×Y0×Unit×Y30×Y11×Y2×Unit->Option ρ)(kr:Unit->Option ρ)(l:List Edg)(fuel:Nat)(e:Int)(f:Int)(o:Int)(p:Int)(g:List Ev.Node)(h:Int)(j:Int)(k:Ev.Arrow×Unit)(a:Query×Graph×(List Y7)×Unit)(m:Unit)(b:List Y2)(c:Bool×Unit)(d:List Int)(hl:l.length<=9223372036854775807)(hf:l.length<fuel):
  a0a (λrc=>x0h aD n rc kx kr) fuel (e,f,o,p,g,h,j,l,(l.length:Int),0,k,a,m,b,c,d,())=a0b (j0j aD n kr) (λ(e,f,o,p,g,h,j,k,a,m,b,c,d,_)=>kx (e,f,g,h,j,((Query.mk a.1.dots a.1.arrows a.1.wher a.1.items a.1.dist),(Graph.mk a.2.1.nodes a.2.1.edges a.2.1.next),a.2.2.1,()),(()),b,(c.1,()),d,())) 0 l (e,f,o,p,g,h,j,k,a,m,b,c,d,()):=
 a0c l (λi (e,f,o,p,g,h,j,k,a,m,b,c,d,_)=>(e,f,o,p,g,h,j,l,(l.length:Int),i,k,a,m,b,c,d,())) _ _ _ (λrec i s=>rfl) hl fuel (e,f,o,p,g,h,j,k,a,m,b,c,d,()) hf
def t0y(aD:Int×Y0×Y2×Unit×Y30×Y11×Unit->Option Y14)(n:Nat):Int×Y0×Y2×Unit×Y30×Y11×Unit->Option Y14:=
 λ(l,a,j,o4,e,f,_)=>let k:=((Query.mk a.1.dots a.1.arrows a.1.wher a.1.items a.1.dist),(Graph.mk a.2.1.nodes a.2.1.edges a.2.1.next),a.2.2.1,());
 (bif (l:Int)==(a.1.dots.length:Int)then
 dem2 (
 (q56z n (k,j,())).bind λ(h,b,m,_)=>let p:=((Query.mk b.1.dots b.1.arrows b.1.wher b.1.items b.1.dist),(Graph.mk b.2.1.nodes b.2.1.edges b.2.1.next),b.2.2.1,());
 (q69z n ((Envr.mk (Graph.mk h.g.nodes h.g.edges h.g.next) h.at_),b.1.wher,())).bind λ(ab,_)=>
 (bif ab then
 (q95z (m,(()),e,(f.1,()),())).bind λ(u,ae,v,w,_)=>some (p,u,(()),v,(w.1,()),())
 else some (p,m,(()),e,(f.1,()),()))) (
 (q56z n (k,j,())).bind λ(i,d,o,_)=>let q:=((Query.mk d.1.dots d.1.arrows d.1.wher d.1.items d.1.dist),(Graph.mk d.2.1.nodes d.2.1.edges d.2.1.next),d.2.2.1,());
 (q69z n ((Envr.mk (Graph.mk i.g.nodes i.g.edges i.g.next) i.at_),a.1.wher,())).bind λ(ac,_)=>
 (bif ac then
 (q95z (o,(()),e,(f.1,()),())).bind λ(x,ag,y,z,_)=>some (q,x,(()),y,(z.1,()),())
 else some (q,o,(()),e,(f.1,()),())))
 else
 a0a (λaa=>l0e aD n aa (λ(c,ad,r,s,t,_)=>some (((Query.mk c.1.dots c.1.arrows c.1.wher c.1.items c.1.dist),(Graph.mk c.2.1.nodes c.2.1.edges c.2.1.next),c.2.2.1,()),t,(()),r,(s.1,()),())) (λ(_)=>none)) (n) (l,(a.1.dots.length:Int),a.2.1.nodes,(a.2.1.nodes.length:Int),0,k,(()),e,(f.1,()),j,()))
def q21z:Nat->Int×Y0×Y2×Unit×Y30×Y11×Unit->Option Y14
 | 0,_=>none
 |n+1,x=>t0y (q21z n) n x
def q20z(n:Nat):Y0×Unit×Y30×Y11×Unit->Option (Y0×Unit×Y30×Y11×Unit):=
 λ(a,h,f,g,_)=>
 (cnt? (wI ((a.1.dots.length:Int)+(a.1.arrows.length:Int)))).bind λc=>
 ck (room c 8) (
 (q21z n (0,((Query.mk a.1.dots a.1.arrows a.1.wher a.1.items a.1.dist),(Graph.mk a.2.1.nodes a.2.1.edges a.2.1.next),a.2.2.1,()),(List.replicate c 0),(()),f,(g.1,()),())).bind λ(b,j,k,d,e,_)=>some (((Query.mk b.1.dots b.1.arrows b.1.wher b.1.items b.1.dist),(Graph.mk b.2.1.nodes b.2.1.edges b.2.1.next),b.2.2.1,()),(()),d,(e.1,()),()))
def c0n(n:Nat):Query×Graph×Unit->Option (Y30×Int×Unit):=
 λ(c,b,_)=>let d:=(Query.mk c.dots c.arrows c.wher c.items c.dist);
 (q96z n (d,())).bind λ(e,_)=>
 (bif (e:Int) !=0 then some (([]:List Y2),e,())
 else
 (q93z n ((Graph.mk b.nodes b.edges b.next),())).bind λ(f,_)=>
 (bif (f:Int) !=0 then some (([]:List Y2),f,())
 else
 (i0r n (d,(Graph.mk b.nodes b.edges b.next),())).bind λ(a,_)=>
 (q20z n (((Query.mk a.1.dots a.1.arrows a.1.wher a.1.items a.1.dist),(Graph.mk a.2.1.nodes a.2.1.edges a.2.1.next),a.2.2.1,()),(()),([]:List Y2),(false,()),())).bind λ(j,k,h,i,_)=>
 (bif i.1 then some (([]:List Y2),10,())
 else
 (sfLL (h,())).bind λ(g,_)=>some (g,0,()))))
def q54z:Unit->Option Y29:=
 λ(_)=>some ((Graph.mk ([(Ev.Node.mk 1 ([]:List Bt) ([]:List Prp)),(Ev.Node.mk 2 ([]:List Bt) ([]:List Prp)),(Ev.Node.mk 3 ([(⟨#[65]⟩:Bt)]:List Bt) ([]:List Prp))]:List Ev.Node) ([(Edg.mk 4 1 2 zb20 ([]:List Prp)),(Edg.mk 5 2 3 zb20 ([]:List Prp))]:List Edg) 6),())
def l2p:Int×Unit->Option Y11:=
 λ(a,_)=>some ((((a:Int)==32) || ((a:Int)==10)) || ((a:Int)==9),())
def q98z:Int×Unit->Option Y11:=
 λ(a,_)=>some (((((decide ((a:Int) >=97))&& (decide ((a:Int)<=122))) || ((decide ((a:Int) >=65))&& (decide ((a:Int)<=90)))) || ((decide ((a:Int) >=48))&& (decide ((a:Int)<=57)))) || ((a:Int)==95),())
def q46z:Int×Y1×Unit->Option (Y1×Unit):=
 λ(a,b,_)=>none
def q22z:Bt×Bt×Unit->Option Y11:=
 λ(b,a,_)=>
 (bif decide (((b.size:Int):Int) >=(a.size:Int))then
 (ssl b 0 (a.size:Int)).bind λc=>some (seq c a,())
 else some (false,()))
def q60z:Bt×Bt×Unit->Option Y11:=
 λ(a,b,_)=>
 (q22z (a,b,())).bind λ(c,_)=>some (c,())
def q23z:Bt×Int×Unit->Option Y5:=
 λ(a,b,_)=>
 (idxN (a,b,())).bind λ(c,_)=>some (c,())
def q61z:Bt×Int×Unit->Option Y5:=
 λ(a,b,_)=>
 (q23z (a,b,())).bind λ(c,_)=>some (c,())
def u1v{ρ:Type}(n:Nat)(rec:Y1×Unit->Option ρ)(kx:Y1×Unit->Option ρ)(kr:Unit->Option ρ):Y1×Unit->Option ρ:=
 λ(a,_)=>
 (bif decide ((a.2.1:Int)<(a.1.size:Int))then
 (sat a.1 a.2.1).bind λb=>
 (l2p (b,())).bind λ(c,_)=>
 (bif c then rec ((a.1,wI (a.2.1+1),a.2.2.1,a.2.2.2.1,()),())
 else kx (a,()))
 else kx (a,()))
def p1y{ρ:Type}(n:Nat)(rec:Int×Y1×Unit->Option ρ)(kx:Int×Y1×Unit->Option ρ)(kr:Unit->Option ρ):Int×Y1×Unit->Option ρ:=
 λ(b,a,_)=>
 (bif decide ((b:Int)<(a.1.size:Int))then
 (sat a.1 b).bind λc=>
 (q98z (c,())).bind λ(d,_)=>
 (bif d then rec (wI (b+1),a,())
 else kx (b,a,()))
 else kx (b,a,()))
def s1o{ρ:Type}(n:Nat)(rec:Int×Y1×Unit->Option ρ)(kx:Int×Y1×Unit->Option ρ)(kr:Unit->Option ρ):Int×Y1×Unit->Option ρ:=
 λ(b,a,_)=>
 (bif decide ((b:Int)<(a.1.size:Int))then
 (sat a.1 b).bind λc=>
 (bif (c:Int) !=39 then
 (sat a.1 b).bind λd=>
 (bif (d:Int)==92 then rec (wI ((wI (b+1))+1),a,())
 else rec (wI (b+1),a,()))
 else kx (b,a,()))
 else kx (b,a,()))
def q51z(n:Nat):Y1×Unit->Option (Y1×Unit):=
 λ(j,_)=>
 a0a (λm=>u1v n m (λ(a,_)=>
 (bif (a.2.1:Int)==(a.1.size:Int)then some ((a.1,a.2.1,zb0,a.2.1,()),())
 else
 (sat a.1 a.2.1).bind λg=>
 (q98z (g,())).bind λ(y9,_)=>
 (bif y9 then
 a0a (λk=>p1y n k (λ(h,d,_)=>
 (ssl d.1 d.2.1 h).bind λo=>some ((d.1,h,o,d.2.2.2.1,()),())) (λ(_)=>none)) (n) (wI (a.2.1+1),(a.1,a.2.1,a.2.2.1,a.2.1,()),())
 else
 (bif (g:Int)==39 then
 a0a (λl=>s1o n l (λ(c,b,_)=>
 (bif decide ((c:Int) >=(b.1.size:Int))then
 (q46z (1,b,())).bind λ(e,_)=>
 (ssl e.1 e.2.1 (wI (c+1))).bind λp=>some ((e.1,wI (c+1),p,e.2.2.2.1,()),())
 else
 (ssl b.1 b.2.1 (wI (c+1))).bind λq=>some ((b.1,wI (c+1),q,b.2.2.2.1,()),()))) (λ(_)=>none)) (n) (wI (a.2.1+1),(a.1,a.2.1,a.2.2.1,a.2.1,()),())
 else
 (ssl a.1 a.2.1 (a.1.size:Int)).bind λr=>
 (q60z (r,(⟨#[45,62]⟩:Bt),())).bind λ(z,_)=>
 (bif z then
 (ssl a.1 a.2.1 (wI ((wI (a.2.1+1))+1))).bind λs=>some ((a.1,wI ((wI (a.2.1+1))+1),s,a.2.1,()),())
 else
 (ssl a.1 a.2.1 (a.1.size:Int)).bind λt=>
 (q60z (t,(⟨#[60,45]⟩:Bt),())).bind λ(aa,_)=>
 (bif aa then
 (ssl a.1 a.2.1 (wI ((wI (a.2.1+1))+1))).bind λu=>some ((a.1,wI ((wI (a.2.1+1))+1),u,a.2.1,()),())
 else
 (ssl a.1 a.2.1 (a.1.size:Int)).bind λv=>
 (q60z (v,zb11,())).bind λ(ab,_)=>
 (bif ab then
 (ssl a.1 a.2.1 (wI ((wI (a.2.1+1))+1))).bind λw=>some ((a.1,wI ((wI (a.2.1+1))+1),w,a.2.1,()),())
 else
 (q61z ((⟨#[40,41,91,93,45,43,42,61,60,44,46,58]⟩:Bt),g,())).bind λ(ac,_)=>
 (bif decide ((ac:Int)<0)then
 (q46z (1,(a.1,a.2.1,a.2.2.1,a.2.1,()),())).bind λ(f,_)=>
 (ssl f.1 f.2.1 (wI (a.2.1+1))).bind λx=>some ((f.1,wI (a.2.1+1),x,f.2.2.2.1,()),())
 else
 (ssl a.1 a.2.1 (wI (a.2.1+1))).bind λy=>some ((a.1,wI (a.2.1+1),y,a.2.1,()),()))))))))) (λ(_)=>none)) (n) (j,())
def q58z(n:Nat):Bt×Y1×Unit->Option (Bool×Y1×Unit):=
 λ(b,a,_)=>
 (bif (!(seq a.2.2.1 b)) || (seq b zb0)then some (false,a,())
 else
 (q51z n (a,())).bind λ(c,_)=>some (true,c,()))
def q49z(n:Nat):Bt×Y1×Unit->Option (Y1×Unit):=
 λ(b,c,_)=>
 (q58z n (b,c,())).bind λ(e,a,_)=>
 (bif !e then
 (q46z (1,a,())).bind λ(d,_)=>some (d,())
 else some (a,()))
def q50z(n:Nat):Bool×Y1×Unit->Option (Bt×Y1×Unit):=
 λ(d,a,_)=>
 (j0a n (a.2.2.1,())).bind λ(i,_)=>
 (bif !i then
 (q46z (1,a,())).bind λ(b,_)=>
 (q51z n (b,())).bind λ(f,_)=>some (b.2.2.1,f,())
 else
 (bif !d then
 (q82z n (a.2.2.1,())).bind λ(j,_)=>
 (bif j then
 (q46z (1,a,())).bind λ(c,_)=>
 (q51z n (c,())).bind λ(g,_)=>some (c.2.2.1,g,())
 else
 (q51z n (a,())).bind λ(h,_)=>some (a.2.2.1,h,()))
 else
 (q51z n (a,())).bind λ(e,_)=>some (a.2.2.1,e,())))
def q57z(n:Nat):Y1×Unit->Option (Ev.Dot×Y1×Unit):=
 λ(e,_)=>
 (q49z n ((⟨#[40]⟩:Bt),e,())).bind λ(a,_)=>
 (bif (!(seq a.2.2.1 (⟨#[58]⟩:Bt)))&& (!(seq a.2.2.1 zb23))then
 (q50z n (false,a,())).bind λ(d,j,_)=>
 (q58z n ((⟨#[58]⟩:Bt),j,())).bind λ(p,c,_)=>
 (bif p then
 (q50z n (true,c,())).bind λ(q,k,_)=>
 (q49z n (zb23,k,())).bind λ(l,_)=>some ((Ev.Dot.mk d q),l,())
 else
 (q49z n (zb23,c,())).bind λ(f,_)=>some ((Ev.Dot.mk d zb0),f,()))
 else
 (q58z n ((⟨#[58]⟩:Bt),a,())).bind λ(m,b,_)=>
 (bif m then
 (q50z n (true,b,())).bind λ(o,g,_)=>
 (q49z n (zb23,g,())).bind λ(h,_)=>some ((Ev.Dot.mk zb0 o),h,())
 else
 (q49z n (zb23,b,())).bind λ(i,_)=>some ((Ev.Dot.mk zb0 zb0),i,())))
def q40z:Y1×Unit->Option (Ev.Arrow×Y1×Unit):=λ_=>none
def c0x:Bt×Y33×Unit->Option Y12:=
 λ(a,b,_)=>some ((Term.mk 4 (Val.mk 0 0 zb0 ([]:List Val)) a b),())
def s1t{ρ:Type}(aA:Int×Y1×Unit->Option Y8)(n:Nat)(rec:Int×Bt×Y33×Y1×Unit->Option ρ)(kx:Unit->Option ρ)(kr:Y33×Y1×Unit->Option ρ):Int×Bt×Y33×Y1×Unit->Option ρ:=
 λ(f,g,c,j,_)=>
 (aA (f,j,())).bind λ(b,h,_)=>let d:=(Term.mk b.kind (Val.mk b.v.kind b.v.n b.v.s b.v.l) b.name b.a);
 ck (room (c++([d]:List Term)).length 104) (
 (q58z n (g,h,())).bind λ(k,e,_)=>
 (bif k then kr (c++([d]:List Term),e,())
 else
 (q49z n ((⟨#[44]⟩:Bt),e,())).bind λ(i,_)=>rec (f,g,c++([d]:List Term),i,())))
def q48z(aA:Int×Y1×Unit->Option Y8)(n:Nat):Int×Bt×Y1×Unit->Option (Y33×Y1×Unit):=
 λ(c,a,f,_)=>
 (q58z n (a,f,())).bind λ(h,b,_)=>
 (bif h then some (([]:List Term),b,())
 else
 a0a (λg=>s1t aA n g (λ(_)=>none) (λ(d,e,_)=>some (d,e,()))) (n) (c,a,([]:List Term),b,()))
def q73z:Val×Unit->Option Y12:=
 λ(a,_)=>some ((Term.mk 1 (Val.mk a.kind a.n a.s a.l) zb0 ([]:List Term)),())
def q36z:Y1×Unit->Option Y8:=λ_=>none
def q52z:Y1×Unit->Option Y8:=λ_=>none
def q41z(aA:Int×Y1×Unit->Option Y8)(n:Nat):Int×Y1×Unit->Option Y8:=
 λ(g,c,_)=>let bd:=((Val.mk 1 0 zb0 ([]:List Val)),());let bc:=((Val.mk 1 1 zb0 ([]:List Val)),());let b:=(Val.mk 0 0 zb0 ([]:List Val));
 (bif decide ((g:Int) >40)then
 (q46z (2,c,())).bind λ(d,_)=>
 (q58z n ((⟨#[40]⟩:Bt),d,())).bind λ(y4,o5,_)=>
 (bif y4 then
 (aA (wI (g+1),o5,())).bind λ(y6,o7,_)=>
 (q49z n (zb23,o7,())).bind λ(o8,_)=>some ((Term.mk y6.kind (Val.mk y6.v.kind y6.v.n y6.v.s y6.v.l) y6.name y6.a),o8,())
 else
 (q58z n ((⟨#[91]⟩:Bt),o5,())).bind λ(y9,ai,_)=>
 (bif y9 then
 (q48z aA n (wI (g+1),(⟨#[93]⟩:Bt),ai,())).bind λ(dx,ci,_)=>
 (c0x (zb19,dx,())).bind λ(p,_)=>some ((Term.mk p.kind (Val.mk p.v.kind p.v.n p.v.s p.v.l) p.name p.a),ci,())
 else
 (q58z n (zb4,ai,())).bind λ(ee,e,_)=>
 (bif ee then
 (q73z (b,())).bind λ(r,_)=>some ((Term.mk r.kind (Val.mk r.v.kind r.v.n r.v.s r.v.l) r.name r.a),e,())
 else
 (bif (seq d.2.2.1 zb26) || (seq d.2.2.1 zb29)then
 (q51z n (e,())).bind λ(ap,_)=>
 (bif seq d.2.2.1 zb26 then
 (q73z bc).bind λ(t,_)=>some ((Term.mk t.kind (Val.mk t.v.kind t.v.n t.v.s t.v.l) t.name t.a),ap,())
 else
 (q73z bd).bind λ(u,_)=>some ((Term.mk u.kind (Val.mk u.v.kind u.v.n u.v.s u.v.l) u.name u.a),ap,()))
 else
 (q26z n (([zb8,zb9,zb10,zb5,zb6]:List Bt),d.2.2.1,())).bind λ(el,_)=>
 (bif el then
 (q51z n (e,())).bind λ(cw,_)=>
 (q49z n ((⟨#[40]⟩:Bt),cw,())).bind λ(cx,_)=>
 (q48z aA n (wI (g+1),zb23,cx,())).bind λ(em,cy,_)=>
 (c0x (d.2.2.1,em,())).bind λ(w,_)=>some ((Term.mk w.kind (Val.mk w.v.kind w.v.n w.v.s w.v.l) w.name w.a),cy,())
 else
 (bif seq d.2.2.1 zb2 then
 (q36z (e,())).bind λ(x,cz,_)=>some ((Term.mk x.kind (Val.mk x.v.kind x.v.n x.v.s x.v.l) x.name x.a),cz,())
 else
 (bif !(seq d.2.2.1 zb0)then
 (sat d.2.2.1 0).bind λbv=>
 (bif decide ((bv:Int) >=48)then
 (sat d.2.2.1 0).bind λbw=>
 (bif decide ((bw:Int)<=57)then
 (q36z (e,())).bind λ(y,da,_)=>some ((Term.mk y.kind (Val.mk y.v.kind y.v.n y.v.s y.v.l) y.name y.a),da,())
 else
 (bif !(seq d.2.2.1 zb0)then
 (sat d.2.2.1 0).bind λbx=>
 (bif (bx:Int)==39 then
 (q52z (e,())).bind λ(z,db,_)=>some ((Term.mk z.kind (Val.mk z.v.kind z.v.n z.v.s z.v.l) z.name z.a),db,())
 else
 (q50z n (false,e,())).bind λ(bk,dc,_)=>
 (q58z n (zb17,dc,())).bind λ(en,aq,_)=>
 (bif en then
 (q50z n (true,aq,())).bind λ(ep,dd,_)=>some ((Term.mk 3 b ep ([(Term.mk 2 b bk ([]:List Term))]:List Term)),dd,())
 else some ((Term.mk 2 b bk ([]:List Term)),aq,())))
 else
 (q50z n (false,e,())).bind λ(bl,de,_)=>
 (q58z n (zb17,de,())).bind λ(eq,ar,_)=>
 (bif eq then
 (q50z n (true,ar,())).bind λ(er,df,_)=>some ((Term.mk 3 b er ([(Term.mk 2 b bl ([]:List Term))]:List Term)),df,())
 else some ((Term.mk 2 b bl ([]:List Term)),ar,()))))
 else
 (bif !(seq d.2.2.1 zb0)then
 (sat d.2.2.1 0).bind λbz=>
 (bif (bz:Int)==39 then
 (q52z (e,())).bind λ(aa,dg,_)=>some ((Term.mk aa.kind (Val.mk aa.v.kind aa.v.n aa.v.s aa.v.l) aa.name aa.a),dg,())
 else
 (q50z n (false,e,())).bind λ(bm,dh,_)=>
 (q58z n (zb17,dh,())).bind λ(es,av,_)=>
 (bif es then
 (q50z n (true,av,())).bind λ(et,di,_)=>some ((Term.mk 3 b et ([(Term.mk 2 b bm ([]:List Term))]:List Term)),di,())
 else some ((Term.mk 2 b bm ([]:List Term)),av,())))
 else
 (q50z n (false,e,())).bind λ(bn,dj,_)=>
 (q58z n (zb17,dj,())).bind λ(eu,aw,_)=>
 (bif eu then
 (q50z n (true,aw,())).bind λ(ev,dk,_)=>some ((Term.mk 3 b ev ([(Term.mk 2 b bn ([]:List Term))]:List Term)),dk,())
 else some ((Term.mk 2 b bn ([]:List Term)),aw,()))))
 else
 (bif !(seq d.2.2.1 zb0)then
 (sat d.2.2.1 0).bind λca=>
 (bif (ca:Int)==39 then
 (q52z (e,())).bind λ(ac,dl,_)=>some ((Term.mk ac.kind (Val.mk ac.v.kind ac.v.n ac.v.s ac.v.l) ac.name ac.a),dl,())
 else
 (q50z n (false,e,())).bind λ(bo,dn,_)=>
 (q58z n (zb17,dn,())).bind λ(ew,ax,_)=>
 (bif ew then
 (q50z n (true,ax,())).bind λ(ex,dp,_)=>some ((Term.mk 3 b ex ([(Term.mk 2 b bo ([]:List Term))]:List Term)),dp,())
 else some ((Term.mk 2 b bo ([]:List Term)),ax,())))
 else
 (q50z n (false,e,())).bind λ(bp,dq,_)=>
 (q58z n (zb17,dq,())).bind λ(ey,ay,_)=>
 (bif ey then
 (q50z n (true,ay,())).bind λ(ez,ds,_)=>some ((Term.mk 3 b ez ([(Term.mk 2 b bp ([]:List Term))]:List Term)),ds,())
 else some ((Term.mk 2 b bp ([]:List Term)),ay,()))))))))))
 else
 (q58z n ((⟨#[40]⟩:Bt),c,())).bind λ(fa,az,_)=>
 (bif fa then
 (aA (wI (g+1),az,())).bind λ(ad,dt,_)=>
 (q49z n (zb23,dt,())).bind λ(du,_)=>some ((Term.mk ad.kind (Val.mk ad.v.kind ad.v.n ad.v.s ad.v.l) ad.name ad.a),du,())
 else
 (q58z n ((⟨#[91]⟩:Bt),az,())).bind λ(fb,ba,_)=>
 (bif fb then
 (q48z aA n (wI (g+1),(⟨#[93]⟩:Bt),ba,())).bind λ(fd,dv,_)=>
 (c0x (zb19,fd,())).bind λ(ae,_)=>some ((Term.mk ae.kind (Val.mk ae.v.kind ae.v.n ae.v.s ae.v.l) ae.name ae.a),dv,())
 else
 (q58z n (zb4,ba,())).bind λ(fe,f,_)=>
 (bif fe then
 (q73z (b,())).bind λ(af,_)=>some ((Term.mk af.kind (Val.mk af.v.kind af.v.n af.v.s af.v.l) af.name af.a),f,())
 else
 (bif (seq c.2.2.1 zb26) || (seq c.2.2.1 zb29)then
 (q51z n (f,())).bind λ(bb,_)=>
 (bif seq c.2.2.1 zb26 then
 (q73z bc).bind λ(ag,_)=>some ((Term.mk ag.kind (Val.mk ag.v.kind ag.v.n ag.v.s ag.v.l) ag.name ag.a),bb,())
 else
 (q73z bd).bind λ(ah,_)=>some ((Term.mk ah.kind (Val.mk ah.v.kind ah.v.n ah.v.s ah.v.l) ah.name ah.a),bb,()))
 else
 (q26z n (([zb8,zb9,zb10,zb5,zb6]:List Bt),c.2.2.1,())).bind λ(ff,_)=>
 (bif ff then
 (q51z n (f,())).bind λ(cb,_)=>
 (q49z n ((⟨#[40]⟩:Bt),cb,())).bind λ(cc,_)=>
 (q48z aA n (wI (g+1),zb23,cc,())).bind λ(dw,cd,_)=>
 (c0x (c.2.2.1,dw,())).bind λ(h,_)=>some ((Term.mk h.kind (Val.mk h.v.kind h.v.n h.v.s h.v.l) h.name h.a),cd,())
 else
 (bif seq c.2.2.1 zb2 then
 (q36z (f,())).bind λ(j,ce,_)=>some ((Term.mk j.kind (Val.mk j.v.kind j.v.n j.v.s j.v.l) j.name j.a),ce,())
 else
 (bif !(seq c.2.2.1 zb0)then
 (sat c.2.2.1 0).bind λbq=>
 (bif decide ((bq:Int) >=48)then
 (sat c.2.2.1 0).bind λbr=>
 (bif decide ((br:Int)<=57)then
 (q36z (f,())).bind λ(k,cf,_)=>some ((Term.mk k.kind (Val.mk k.v.kind k.v.n k.v.s k.v.l) k.name k.a),cf,())
 else
 (bif !(seq c.2.2.1 zb0)then
 (sat c.2.2.1 0).bind λbs=>
 (bif (bs:Int)==39 then
 (q52z (f,())).bind λ(m,cg,_)=>some ((Term.mk m.kind (Val.mk m.v.kind m.v.n m.v.s m.v.l) m.name m.a),cg,())
 else
 (q50z n (false,f,())).bind λ(be,ch,_)=>
 (q58z n (zb17,ch,())).bind λ(dy,aj,_)=>
 (bif dy then
 (q50z n (true,aj,())).bind λ(dz,cj,_)=>some ((Term.mk 3 b dz ([(Term.mk 2 b be ([]:List Term))]:List Term)),cj,())
 else some ((Term.mk 2 b be ([]:List Term)),aj,())))
 else
 (q50z n (false,f,())).bind λ(bf,ck,_)=>
 (q58z n (zb17,ck,())).bind λ(ea,ak,_)=>
 (bif ea then
 (q50z n (true,ak,())).bind λ(eb,cl,_)=>some ((Term.mk 3 b eb ([(Term.mk 2 b bf ([]:List Term))]:List Term)),cl,())
 else some ((Term.mk 2 b bf ([]:List Term)),ak,()))))
 else
 (bif !(seq c.2.2.1 zb0)then
 (sat c.2.2.1 0).bind λbt=>
 (bif (bt:Int)==39 then
 (q52z (f,())).bind λ(o,cm,_)=>some ((Term.mk o.kind (Val.mk o.v.kind o.v.n o.v.s o.v.l) o.name o.a),cm,())
 else
 (q50z n (false,f,())).bind λ(bg,cn,_)=>
 (q58z n (zb17,cn,())).bind λ(ec,al,_)=>
 (bif ec then
 (q50z n (true,al,())).bind λ(ed,co,_)=>some ((Term.mk 3 b ed ([(Term.mk 2 b bg ([]:List Term))]:List Term)),co,())
 else some ((Term.mk 2 b bg ([]:List Term)),al,())))
 else
 (q50z n (false,f,())).bind λ(bh,cp,_)=>
 (q58z n (zb17,cp,())).bind λ(ef,am,_)=>
 (bif ef then
 (q50z n (true,am,())).bind λ(eg,cq,_)=>some ((Term.mk 3 b eg ([(Term.mk 2 b bh ([]:List Term))]:List Term)),cq,())
 else some ((Term.mk 2 b bh ([]:List Term)),am,()))))
 else
 (bif !(seq c.2.2.1 zb0)then
 (sat c.2.2.1 0).bind λbu=>
 (bif (bu:Int)==39 then
 (q52z (f,())).bind λ(q,cr,_)=>some ((Term.mk q.kind (Val.mk q.v.kind q.v.n q.v.s q.v.l) q.name q.a),cr,())
 else
 (q50z n (false,f,())).bind λ(bi,cs,_)=>
 (q58z n (zb17,cs,())).bind λ(eh,an,_)=>
 (bif eh then
 (q50z n (true,an,())).bind λ(ei,ct,_)=>some ((Term.mk 3 b ei ([(Term.mk 2 b bi ([]:List Term))]:List Term)),ct,())
 else some ((Term.mk 2 b bi ([]:List Term)),an,())))
 else
 (q50z n (false,f,())).bind λ(bj,cu,_)=>
 (q58z n (zb17,cu,())).bind λ(ej,ao,_)=>
 (bif ej then
 (q50z n (true,ao,())).bind λ(ek,cv,_)=>some ((Term.mk 3 b ek ([(Term.mk 2 b bj ([]:List Term))]:List Term)),cv,())
 else some ((Term.mk 2 b bj ([]:List Term)),ao,())))))))))))
def g1v{ρ:Type}(aA:Int×Y1×Unit->Option Y8)(n:Nat)(rec:Int×Y15×Y12×Y12×Y1×Unit->Option ρ)(kx:Y12×Y12×Y1×Unit->Option ρ)(kr:Unit->Option ρ):Int×Y15×Y12×Y12×Y1×Unit->Option ρ:=
 λ(i,j,b,c,f,_)=>let h:=(Term.mk c.1.kind (Val.mk c.1.v.kind c.1.v.n c.1.v.s c.1.v.l) c.1.name c.1.a);let g:=((Term.mk b.1.kind (Val.mk b.1.v.kind b.1.v.n b.1.v.s b.1.v.l) b.1.name b.1.a),());
 (q26z n (j,f.2.2.1,())).bind λ(o,_)=>
 (bif o then
 (q51z n (f,())).bind λ(k,_)=>
 (
 (q41z aA n (i,k,())).bind λ(d,m,_)=>
 (c0x (f.2.2.1,([h,(Term.mk d.kind (Val.mk d.v.kind d.v.n d.v.s d.v.l) d.name d.a)]:List Term),())).bind λ(e,_)=>rec (i,j,g,((Term.mk e.kind (Val.mk e.v.kind e.v.n e.v.s e.v.l) e.name e.a),()),m,()))
 else kx (g,(h,()),f,()))
def q17z(aA:Int×Y1×Unit->Option Y8)(n:Nat):Int×Y15×Y1×Unit->Option Y8:=
 λ(d,e,g,_)=>
 (q41z aA n (d,g,())).bind λ(c,h,_)=>
 a0a (λi=>g1v aA n i (λ(j,b,f,_)=>some ((Term.mk b.1.kind (Val.mk b.1.v.kind b.1.v.n b.1.v.s b.1.v.l) b.1.name b.1.a),f,())) (λ(_)=>none)) (n) (d,e,((Term.mk 0 (Val.mk 0 0 zb0 ([]:List Val)) zb0 ([]:List Term)),()),((Term.mk c.kind (Val.mk c.v.kind c.v.n c.v.s c.v.l) c.name c.a),()),h,())
def q34z(aA:Int×Y1×Unit->Option Y8)(n:Nat):Int×Y1×Unit->Option Y8:=
 λ(c,d,_)=>
 (q17z aA n (c,([zb3]:List Bt),d,())).bind λ(b,e,_)=>some ((Term.mk b.kind (Val.mk b.v.kind b.v.n b.v.s b.v.l) b.name b.a),e,())
def g1q{ρ:Type}(aA:Int×Y1×Unit->Option Y8)(n:Nat)(rec:Int×Y15×Y12×Y12×Y1×Unit->Option ρ)(kx:Y12×Y12×Y1×Unit->Option ρ)(kr:Unit->Option ρ):Int×Y15×Y12×Y12×Y1×Unit->Option ρ:=
 λ(i,j,b,c,f,_)=>let h:=(Term.mk c.1.kind (Val.mk c.1.v.kind c.1.v.n c.1.v.s c.1.v.l) c.1.name c.1.a);let g:=((Term.mk b.1.kind (Val.mk b.1.v.kind b.1.v.n b.1.v.s b.1.v.l) b.1.name b.1.a),());
 (q26z n (j,f.2.2.1,())).bind λ(o,_)=>
 (bif o then
 (q51z n (f,())).bind λ(k,_)=>
 (
 (q34z aA n (i,k,())).bind λ(d,m,_)=>
 (c0x (f.2.2.1,([h,(Term.mk d.kind (Val.mk d.v.kind d.v.n d.v.s d.v.l) d.name d.a)]:List Term),())).bind λ(e,_)=>rec (i,j,g,((Term.mk e.kind (Val.mk e.v.kind e.v.n e.v.s e.v.l) e.name e.a),()),m,()))
 else kx (g,(h,()),f,()))
def q13z(aA:Int×Y1×Unit->Option Y8)(n:Nat):Int×Y15×Y1×Unit->Option Y8:=
 λ(d,e,g,_)=>
 (q34z aA n (d,g,())).bind λ(c,h,_)=>
 a0a (λi=>g1q aA n i (λ(j,b,f,_)=>some ((Term.mk b.1.kind (Val.mk b.1.v.kind b.1.v.n b.1.v.s b.1.v.l) b.1.name b.1.a),f,())) (λ(_)=>none)) (n) (d,e,((Term.mk 0 (Val.mk 0 0 zb0 ([]:List Val)) zb0 ([]:List Term)),()),((Term.mk c.kind (Val.mk c.v.kind c.v.n c.v.s c.v.l) c.name c.a),()),h,())
def q59z(aA:Int×Y1×Unit->Option Y8)(n:Nat):Int×Y1×Unit->Option Y8:=
 λ(c,d,_)=>
 (q13z aA n (c,([zb1,zb2]:List Bt),d,())).bind λ(b,e,_)=>some ((Term.mk b.kind (Val.mk b.v.kind b.v.n b.v.s b.v.l) b.name b.a),e,())
def q33z(aA:Int×Y1×Unit->Option Y8)(n:Nat):Int×Y1×Unit->Option Y8:=
 λ(t,z,_)=>
 (q59z aA n (t,z,())).bind λ(j,b,_)=>let c:=(Term.mk j.kind (Val.mk j.v.kind j.v.n j.v.s j.v.l) j.name j.a);
 (bif seq b.2.2.1 zb15 then
 (bif seq b.2.2.1 zb15 then
 (q51z n (b,())).bind λ(o5,_)=>
 (
 (q59z aA n (t,o5,())).bind λ(q,o7,_)=>
 (c0x (b.2.2.1,([c,(Term.mk q.kind (Val.mk q.v.kind q.v.n q.v.s q.v.l) q.name q.a)]:List Term),())).bind λ(r,_)=>some ((Term.mk r.kind (Val.mk r.v.kind r.v.n r.v.s r.v.l) r.name r.a),o7,()))
 else
 (bif seq b.2.2.1 zb25 then
 (q51z n (b,())).bind λ(u,_)=>
 (q49z n (zb4,u,())).bind λ(w,_)=>
 (c0x (zb4,([c]:List Term),())).bind λ(d,_)=>some ((Term.mk d.kind (Val.mk d.v.kind d.v.n d.v.s d.v.l) d.name d.a),w,())
 else some (c,b,())))
 else
 (bif seq b.2.2.1 zb16 then
 (bif seq b.2.2.1 zb16 then
 (q51z n (b,())).bind λ(x,_)=>
 (
 (q59z aA n (t,x,())).bind λ(e,y,_)=>
 (c0x (b.2.2.1,([c,(Term.mk e.kind (Val.mk e.v.kind e.v.n e.v.s e.v.l) e.name e.a)]:List Term),())).bind λ(f,_)=>some ((Term.mk f.kind (Val.mk f.v.kind f.v.n f.v.s f.v.l) f.name f.a),y,()))
 else
 (bif seq b.2.2.1 zb25 then
 (q51z n (b,())).bind λ(aa,_)=>
 (q49z n (zb4,aa,())).bind λ(ab,_)=>
 (c0x (zb4,([c]:List Term),())).bind λ(g,_)=>some ((Term.mk g.kind (Val.mk g.v.kind g.v.n g.v.s g.v.l) g.name g.a),ab,())
 else some (c,b,())))
 else
 (bif seq b.2.2.1 zb11 then
 (bif seq b.2.2.1 zb11 then
 (q51z n (b,())).bind λ(ac,_)=>
 (
 (q59z aA n (t,ac,())).bind λ(h,ad,_)=>
 (c0x (b.2.2.1,([c,(Term.mk h.kind (Val.mk h.v.kind h.v.n h.v.s h.v.l) h.name h.a)]:List Term),())).bind λ(i,_)=>some ((Term.mk i.kind (Val.mk i.v.kind i.v.n i.v.s i.v.l) i.name i.a),ad,()))
 else
 (bif seq b.2.2.1 zb25 then
 (q51z n (b,())).bind λ(ae,_)=>
 (q49z n (zb4,ae,())).bind λ(af,_)=>
 (c0x (zb4,([c]:List Term),())).bind λ(k,_)=>some ((Term.mk k.kind (Val.mk k.v.kind k.v.n k.v.s k.v.l) k.name k.a),af,())
 else some (c,b,())))
 else
 (bif seq b.2.2.1 zb18 then
 (q51z n (b,())).bind λ(ag,_)=>
 (
 (q59z aA n (t,ag,())).bind λ(m,ah,_)=>
 (c0x (b.2.2.1,([c,(Term.mk m.kind (Val.mk m.v.kind m.v.n m.v.s m.v.l) m.name m.a)]:List Term),())).bind λ(o,_)=>some ((Term.mk o.kind (Val.mk o.v.kind o.v.n o.v.s o.v.l) o.name o.a),ah,()))
 else
 (bif seq b.2.2.1 zb25 then
 (q51z n (b,())).bind λ(ai,_)=>
 (q49z n (zb4,ai,())).bind λ(aj,_)=>
 (c0x (zb4,([c]:List Term),())).bind λ(p,_)=>some ((Term.mk p.kind (Val.mk p.v.kind p.v.n p.v.s p.v.l) p.name p.a),aj,())
 else some (c,b,()))))))
def d2t(aA:Int×Y1×Unit->Option Y8)(bM:Int×Y1×Unit->Option Y8)(n:Nat):Int×Y1×Unit->Option Y8:=
 λ(h,k,_)=>
 (bif decide ((h:Int) >40)then
 (q46z (2,k,())).bind λ(r,_)=>
 (q58z n (zb7,r,())).bind λ(w,m,_)=>
 (bif w then
 (bM (wI (h+1),m,())).bind λ(e,t,_)=>
 (c0x (zb7,([(Term.mk e.kind (Val.mk e.v.kind e.v.n e.v.s e.v.l) e.name e.a)]:List Term),())).bind λ(f,_)=>some ((Term.mk f.kind (Val.mk f.v.kind f.v.n f.v.s f.v.l) f.name f.a),t,())
 else
 (q33z aA n (h,m,())).bind λ(g,o,_)=>some ((Term.mk g.kind (Val.mk g.v.kind g.v.n g.v.s g.v.l) g.name g.a),o,()))
 else
 (q58z n (zb7,k,())).bind λ(u,j,_)=>
 (bif u then
 (bM (wI (h+1),j,())).bind λ(b,p,_)=>
 (c0x (zb7,([(Term.mk b.kind (Val.mk b.v.kind b.v.n b.v.s b.v.l) b.name b.a)]:List Term),())).bind λ(c,_)=>some ((Term.mk c.kind (Val.mk c.v.kind c.v.n c.v.s c.v.l) c.name c.a),p,())
 else
 (q33z aA n (h,j,())).bind λ(d,q,_)=>some ((Term.mk d.kind (Val.mk d.v.kind d.v.n d.v.s d.v.l) d.name d.a),q,())))
def q37z(aA:Int×Y1×Unit->Option Y8):Nat->Int×Y1×Unit->Option Y8
 | 0,_=>none
 |n+1,x=>d2t aA (q37z aA n) n x
def f1l{ρ:Type}(aA:Int×Y1×Unit->Option Y8)(n:Nat)(rec:Int×Y15×Y12×Y12×Y1×Unit->Option ρ)(kx:Y12×Y12×Y1×Unit->Option ρ)(kr:Unit->Option ρ):Int×Y15×Y12×Y12×Y1×Unit->Option ρ:=
 λ(i,j,b,c,f,_)=>let h:=(Term.mk c.1.kind (Val.mk c.1.v.kind c.1.v.n c.1.v.s c.1.v.l) c.1.name c.1.a);let g:=((Term.mk b.1.kind (Val.mk b.1.v.kind b.1.v.n b.1.v.s b.1.v.l) b.1.name b.1.a),());
 (q26z n (j,f.2.2.1,())).bind λ(o,_)=>
 (bif o then
 (q51z n (f,())).bind λ(k,_)=>
 (
 (q37z aA n (i,k,())).bind λ(d,m,_)=>
 (c0x (f.2.2.1,([h,(Term.mk d.kind (Val.mk d.v.kind d.v.n d.v.s d.v.l) d.name d.a)]:List Term),())).bind λ(e,_)=>rec (i,j,g,((Term.mk e.kind (Val.mk e.v.kind e.v.n e.v.s e.v.l) e.name e.a),()),m,()))
 else kx (g,(h,()),f,()))
def q16z(aA:Int×Y1×Unit->Option Y8)(n:Nat):Int×Y15×Y1×Unit->Option Y8:=
 λ(d,e,g,_)=>
 (q37z aA n (d,g,())).bind λ(c,h,_)=>
 a0a (λi=>f1l aA n i (λ(j,b,f,_)=>some ((Term.mk b.1.kind (Val.mk b.1.v.kind b.1.v.n b.1.v.s b.1.v.l) b.1.name b.1.a),f,())) (λ(_)=>none)) (n) (d,e,((Term.mk 0 (Val.mk 0 0 zb0 ([]:List Val)) zb0 ([]:List Term)),()),((Term.mk c.kind (Val.mk c.v.kind c.v.n c.v.s c.v.l) c.name c.a),()),h,())
def q45z(aA:Int×Y1×Unit->Option Y8)(n:Nat):Int×Y1×Unit->Option Y8:=
 λ(c,d,_)=>
 (q16z aA n (c,([zb12]:List Bt),d,())).bind λ(b,e,_)=>some ((Term.mk b.kind (Val.mk b.v.kind b.v.n b.v.s b.v.l) b.name b.a),e,())
def e1n{ρ:Type}(aA:Int×Y1×Unit->Option Y8)(n:Nat)(rec:Int×Y15×Y12×Y12×Y1×Unit->Option ρ)(kx:Y12×Y12×Y1×Unit->Option ρ)(kr:Unit->Option ρ):Int×Y15×Y12×Y12×Y1×Unit->Option ρ:=
 λ(i,j,b,c,f,_)=>let h:=(Term.mk c.1.kind (Val.mk c.1.v.kind c.1.v.n c.1.v.s c.1.v.l) c.1.name c.1.a);let g:=((Term.mk b.1.kind (Val.mk b.1.v.kind b.1.v.n b.1.v.s b.1.v.l) b.1.name b.1.a),());
 (q26z n (j,f.2.2.1,())).bind λ(o,_)=>
 (bif o then
 (q51z n (f,())).bind λ(k,_)=>
 (
 (q45z aA n (i,k,())).bind λ(d,m,_)=>
 (c0x (f.2.2.1,([h,(Term.mk d.kind (Val.mk d.v.kind d.v.n d.v.s d.v.l) d.name d.a)]:List Term),())).bind λ(e,_)=>rec (i,j,g,((Term.mk e.kind (Val.mk e.v.kind e.v.n e.v.s e.v.l) e.name e.a),()),m,()))
 else kx (g,(h,()),f,()))
def q18z(aA:Int×Y1×Unit->Option Y8)(n:Nat):Int×Y15×Y1×Unit->Option Y8:=
 λ(d,e,g,_)=>
 (q45z aA n (d,g,())).bind λ(c,h,_)=>
 a0a (λi=>e1n aA n i (λ(j,b,f,_)=>some ((Term.mk b.1.kind (Val.mk b.1.v.kind b.1.v.n b.1.v.s b.1.v.l) b.1.name b.1.a),f,())) (λ(_)=>none)) (n) (d,e,((Term.mk 0 (Val.mk 0 0 zb0 ([]:List Val)) zb0 ([]:List Term)),()),((Term.mk c.kind (Val.mk c.v.kind c.v.n c.v.s c.v.l) c.name c.a),()),h,())
def d2g(aA:Int×Y1×Unit->Option Y8)(n:Nat):Int×Y1×Unit->Option Y8:=
 λ(c,d,_)=>
 (q18z aA n (c,([zb13]:List Bt),d,())).bind λ(b,e,_)=>some ((Term.mk b.kind (Val.mk b.v.kind b.v.n b.v.s b.v.l) b.name b.a),e,())
def q35z:Nat->Int×Y1×Unit->Option Y8
 | 0,_=>none
 |n+1,x=>d2g (q35z n) n x
def q47z(n:Nat):Y1×Unit->Option (Ev.Item×Y1×Unit):=
 λ(d,_)=>
 (q26z n (([zb14,zb24,zb21,zb22]:List Bt),d.2.2.1,())).bind λ(q,_)=>
 (bif q then
 (q51z n (d,())).bind λ(i,_)=>
 (q49z n ((⟨#[40]⟩:Bt),i,())).bind λ(j,_)=>
 (q35z n (1,j,())).bind λ(c,k,_)=>
 (q49z n (zb23,k,())).bind λ(m,_)=>
 (q49z n ((⟨#[97,115]⟩:Bt),m,())).bind λ(o,_)=>
 (q50z n (false,o,())).bind λ(r,e,_)=>some ((Ev.Item.mk r d.2.2.1 (Term.mk c.kind (Val.mk c.v.kind c.v.n c.v.s c.v.l) c.name c.a)),e,())
 else
 (q35z n (1,d,())).bind λ(b,f,_)=>
 (q49z n ((⟨#[97,115]⟩:Bt),f,())).bind λ(g,_)=>
 (q50z n (false,g,())).bind λ(p,h,_)=>some ((Ev.Item.mk p zb0 (Term.mk b.kind (Val.mk b.v.kind b.v.n b.v.s b.v.l) b.name b.a)),h,()))
def x1b{ρ:Type}(n:Nat)(rec:Y4×Y11×Y35×Y28×Y1×Unit->Option ρ)(kx:Y4×Y11×Y35×Y28×Y1×Unit->Option ρ)(kr:Unit->Option ρ):Y4×Y11×Y35×Y28×Y1×Unit->Option ρ:=
 λ(d,e,b,c,a,_)=>
 (bif (seq a.2.2.1 zb2) || (seq a.2.2.1 (⟨#[60,45]⟩:Bt))then
 (q40z (a,())).bind λ(f,h,_)=>
 ck (room (c++([f]:List Ev.Arrow)).length 40) (
 (q57z n (h,())).bind λ(g,i,_)=>
 ck (room (b++([g]:List Ev.Dot)).length 32) (rec (d,e,b++([g]:List Ev.Dot),c++([f]:List Ev.Arrow),i,())))
 else kx (d,e,b,c,a,()))
def e1k{ρ:Type}(n:Nat)(rec:Y4×Y11×Y35×Y28×Y31×Y33×Y1×Unit->Option ρ)(kx:Unit->Option ρ)(kr:Y11×Y35×Y28×Y31×Y33×Y1×Unit->Option ρ):Y4×Y11×Y35×Y28×Y31×Y33×Y1×Unit->Option ρ:=
 λ(j,e,f,g,c,h,k,_)=>
 (q47z n (k,())).bind λ(b,m,_)=>let d:=(Ev.Item.mk b.name b.agg (Term.mk b.t.kind (Val.mk b.t.v.kind b.t.v.n b.t.v.s b.t.v.l) b.t.name b.t.a));
 ck (room (c++([d]:List Ev.Item)).length 136) (
 (q58z n ((⟨#[44]⟩:Bt),m,())).bind λ(o,i,_)=>
 (bif !o then kr (e,f,g,c++([d]:List Ev.Item),h,i,())
 else rec (j,e,f,g,c++([d]:List Ev.Item),h,i,())))
def q42z(n:Nat):Y1×Unit->Option (Query×Y1×Unit):=
 λ(i,_)=>
 (q49z n ((⟨#[109,97,116,99,104]⟩:Bt),i,())).bind λ(j,_)=>
 (q57z n (j,())).bind λ(h,z,_)=>
 ck (room (([h]:List Ev.Dot)).length 32) (
 a0a (λaj=>x1b n aj (λ(c,an,d,e,k,_)=>
 (q58z n ((⟨#[119,104,101,114,101]⟩:Bt),k,())).bind λ(ak,f,_)=>
 (bif ak then
 (q35z n (1,f,())).bind λ(b,m,_)=>let g:=(Term.mk b.kind (Val.mk b.v.kind b.v.n b.v.s b.v.l) b.name b.a);
 ck (room (([]:List Term)++([g]:List Term)).length 104) (
 (q49z n (zb27,m,())).bind λ(o,_)=>
 (q58z n (zb28,o,())).bind λ(al,p,_)=>
 a0a (λah=>e1k n ah (λ(_)=>none) (λ(q,r,t,u,w,x,_)=>some ((Query.mk r t w u q.1),x,()))) (n) (c,(al,()),d,e,([]:List Ev.Item),([]:List Term)++([g]:List Term),p,()))
 else
 (q49z n (zb27,f,())).bind λ(y,_)=>
 (q58z n (zb28,y,())).bind λ(am,aa,_)=>
 a0a (λai=>e1k n ai (λ(_)=>none) (λ(ab,ac,ad,ae,af,ag,_)=>some ((Query.mk ac ad af ae ab.1),ag,()))) (n) (c,(am,()),d,e,([]:List Ev.Item),([]:List Term),aa,()))) (λ(_)=>none)) (n) (((Query.mk ([]:List Ev.Dot) ([]:List Ev.Arrow) ([]:List Term) ([]:List Ev.Item) false),()),(false,()),([h]:List Ev.Dot),([]:List Ev.Arrow),z,()))
def q97z(n:Nat):Bt×Unit->Option (Query×Int×Int×Unit):=
 λ(c,_)=>let b:=(Query.mk ([]:List Ev.Dot) ([]:List Ev.Arrow) ([]:List Term) ([]:List Ev.Item) false);
 (bif decide (((c.size:Int):Int) >4000)then some (b,0,2,())
 else
 (q51z n ((c,0,zb0,0,()),())).bind λ(g,_)=>
 (q42z n (g,())).bind λ(a,d,_)=>
 (bif !(seq d.2.2.1 zb0)then
 (q46z (1,d,())).bind λ(h,_)=>
 (q96z n (a,())).bind λ(e,_)=>
 (bif (e:Int) !=0 then some (b,0,e,())
 else some (a,0,0,()))
 else
 (q96z n (a,())).bind λ(f,_)=>
 (bif (f:Int) !=0 then some (b,0,f,())
 else some (a,0,0,()))))
def e0t{ρ:Type}(n:Nat)(kr:Unit->Option ρ):Int->Ev.Item->(Y25×Y9×Unit)->((Y25×Y9×Unit)->Option ρ)->Option ρ:=
 λf c (d,e,_) rec=>
 (q74z n (d.1,(Term.mk c.t.kind (Val.mk c.t.v.kind c.t.v.n c.t.v.s c.t.v.l) c.t.name c.t.a),())).bind λ(b,_)=>
 ck (room (e++([(Val.mk b.kind b.n b.s b.l)]:List Val)).length 56) (rec (d,e++([(Val.mk b.kind b.n b.s b.l)]:List Val),()))
def n0p{ρ:Type}(n:Nat)(rec:Y31×Int×Int×Y25×Y9×Unit->Option ρ)(kx:Y9×Unit->Option ρ)(kr:Unit->Option ρ):Y31×Int×Int×Y25×Y9×Unit->Option ρ:=
 λ(c,d,a,e,b,_)=>
 (bif decide ((a:Int)<d)then
 (ix c a).bind λh=>e0t n kr a h (e,b,()) (λ(f,g,_)=>rec (c,d,wI (a+1),f,g,()))
 else kx (b,()))
theorem b1b{ρ:Type}(n:Nat)(kx:Y9×Unit->Option ρ)(kr:Unit->Option ρ)(l:List Ev.Item)(fuel:Nat)(b:Envr×Unit)(a:List Val)(hl:l.length<=9223372036854775807)(hf:l.length<fuel):
  a0a (λrc=>n0p n rc kx kr) fuel (l,(l.length:Int),0,b,a,())=a0b (e0t n kr) (λ(b,a,_)=>kx (a,())) 0 l (b,a,()):=
 a0c l (λi (b,a,_)=>(l,(l.length:Int),i,b,a,())) _ _ _ (λrec i s=>rfl) hl fuel (b,a,()) hf
def c0d(n:Nat):Query×Envr×Unit->Option (Y9×Unit):=
 λ(a,b,_)=>
 a0a (λd=>n0p n d (λ(c,_)=>some (c,())) (λ(_)=>none)) (n) (a.items,(a.items.length:Int),0,(b,()),([]:List Val),())
def b0q(n:Nat):Y2×Y5×Unit×Y3×Y4×Unit×Y0×Unit->Option (Y2×Y5×Unit×Y3×Y4×Unit×Y0×Unit):=
 λ(d,a,k,b,c,l,e,_)=>
 (bif decide ((wI (a.1+1):Int)<=2000)then
 (
 (
 (q56z n (e,d,())).bind λ(j,h,g,_)=>
 (c0d n (c.1,j,())).bind λ(f,_)=>
 ck (room (b++([(Cnt.mk f 1)]:List Cnt)).length 32) (some (g,(wI (a.1+1),()),(()),b++([(Cnt.mk f 1)]:List Cnt),c,(()),h,()))))
 else some (d,(wI (a.1+1),()),(()),b,c,(()),e,()))
def j0q{ρ:Type}(aE:Int×Y0×Y2×Y5×Unit×Y3×Y4×Unit×Unit->Option Y13)(n:Nat)(kr:Unit->Option ρ):Int->Edg->Y23->(Y23->Option ρ)->Option ρ:=
 λad j (d,g,k,l,s,t,u,c,a,m,z,o,e,aa,h,_) rec=>let r:=((Ev.Arrow.mk c.1.name c.1.type c.1.back c.1.many),());let q:=((Query.mk e.1.dots e.1.arrows e.1.wher e.1.items e.1.dist),());let p:=((Query.mk a.1.dots a.1.arrows a.1.wher a.1.items a.1.dist),(Graph.mk a.2.1.nodes a.2.1.edges a.2.1.next),a.2.2.1,());
 (bif (((j.src:Int)==k)&& ((j.dst:Int)==l))&& ((seq c.1.type zb0) || (seq j.type c.1.type))then
 (ix h (wI ((wI (g+d)) - 1))).bind λ_=>
 ((h)[(wI ((wI (g+d)) - 1):Int).toNat]?).bind λy=>
 (aE (wI (d+1),p,(h).set ((wI ((wI (g+d)) - 1):Int).toNat) j.id,(m.1,()),(()),o,q,(()),())).bind λ(b,v,w,ab,x,f,ac,_)=>rec (d,g,k,l,s,t,u,r,((Query.mk b.1.dots b.1.arrows b.1.wher b.1.items b.1.dist),(Graph.mk b.2.1.nodes b.2.1.edges b.2.1.next),b.2.2.1,()),(w.1,()),(()),x,((Query.mk f.1.dots f.1.arrows f.1.wher f.1.items f.1.dist),()),(()),v,())
 else rec (d,g,k,l,s,t,u,r,p,(m.1,()),(()),o,q,(()),h,()))
def y0k{ρ:Type}(aE:Int×Y0×Y2×Y5×Unit×Y3×Y4×Unit×Unit->Option Y13)(n:Nat)(rec:Int×Int×Int×Int×Y17×Int×Int×Y43×Int×Int×(Ev.Arrow×Unit)×Y0×Y5×Unit×Y3×Y4×Unit×Y2×Unit->Option ρ)(kx:Int×Int×Y17×Int×Int×Y0×Y5×Unit×Y3×Y4×Unit×Y2×Unit->Option ρ)(kr:Unit->Option ρ):Int×Int×Int×Int×Y17×Int×Int×Y43×Int×Int×(Ev.Arrow×Unit)×Y0×Y5×Unit×Y3×Y4×Unit×Y2×Unit->Option ρ:=
 λ(g,h,s,t,j,k,l,m,o,c,p,a,d,q,e,b,r,f,_)=>
 (bif decide ((c:Int)<o)then
 (ix m c).bind λaj=>j0q aE n kr c aj (g,h,s,t,j,k,l,p,a,d,q,e,b,r,f,()) (λ(u,v,w2,w3,w4,w5,w6,w,x,y,z,aa,ab,ac,ad,_)=>rec (u,v,w2,w3,w4,w5,w6,m,o,wI (c+1),w,x,y,z,aa,ab,ac,ad,()))
 else kx (g,h,j,k,l,((Query.mk a.1.dots a.1.arrows a.1.wher a.1.items a.1.dist),(Graph.mk a.2.1.nodes a.2.1.edges a.2.1.next),a.2.2.1,()),(d.1,()),(()),e,((Query.mk b.1.dots b.1.arrows b.1.wher b.1.items b.1.dist),()),(()),f,()))
def l0g{ρ:Type}(aE:Int×Y0×Y2×Y5×Unit×Y3×Y4×Unit×Unit->Option Y13)(n:Nat)(rec:Int×Int×Y17×Int×Int×Y0×Y5×Unit×Y3×Y4×Unit×Y2×Unit->Option ρ)(kx:Y0×Y5×Unit×Y3×Y4×Unit×Y2×Unit->Option ρ)(kr:Unit->Option ρ):Int×Int×Y17×Int×Int×Y0×Y5×Unit×Y3×Y4×Unit×Y2×Unit->Option ρ:=
 λ(a,c,j,k,e,p,f,bz,g,aa,ca,ab,_)=>let ae:=((Query.mk p.1.dots p.1.arrows p.1.wher p.1.items p.1.dist),(Graph.mk p.2.1.nodes p.2.1.edges p.2.1.next),p.2.2.1,());let h:=((Query.mk aa.1.dots aa.1.arrows aa.1.wher aa.1.items aa.1.dist),());
 (bif decide ((e:Int)<k)then
 (ix j e).bind λu=>
 (q55z n (a,(Ev.Node.mk u.id u.labels u.props),ae,())).bind λ(bm,q,_)=>let af:=((Query.mk q.1.dots q.1.arrows q.1.wher q.1.items q.1.dist),(Graph.mk q.2.1.nodes q.2.1.edges q.2.1.next),q.2.2.1,());
 (bif !bm then rec (a,c,j,k,wI (e+1),af,(f.1,()),(()),g,h,(()),ab,())
 else
 (ix ab a).bind λ_=>
 ((ab)[(a:Int).toNat]?).bind λbp=>
 (q44z n (a,af,(ab).set ((a:Int).toNat) u.id,())).bind λ(bn,b,d,_)=>let t:=((Query.mk b.1.dots b.1.arrows b.1.wher b.1.items b.1.dist),(Graph.mk b.2.1.nodes b.2.1.edges b.2.1.next),b.2.2.1,());
 (bif !bn then rec (a,c,j,k,wI (e+1),t,(f.1,()),(()),g,h,(()),d,())
 else
 (bif (a:Int)==0 then
 (aE (1,t,d,(f.1,()),(()),g,h,(()),())).bind λ(r,aq,ar,cb,au,ac,cc,_)=>rec (a,c,j,k,wI (e+1),((Query.mk r.1.dots r.1.arrows r.1.wher r.1.items r.1.dist),(Graph.mk r.2.1.nodes r.2.1.edges r.2.1.next),r.2.2.1,()),(ar.1,()),(()),au,((Query.mk ac.1.dots ac.1.arrows ac.1.wher ac.1.items ac.1.dist),()),(()),aq,())
 else
 (ix b.1.arrows (wI (a - 1))).bind λv=>let ag:=((Ev.Arrow.mk v.name v.type v.back v.many),());
 (ix d (wI (a - 1))).bind λ_=>
 ((d)[(wI (a - 1):Int).toNat]?).bind λad=>
 (bif v.back then
 (bif v.many then
 (ix b.2.2.1 (wI (a - 1))).bind λbl=>
 (bif (a0k .pair .bool false bl (Ev.Pair.mk u.id ad))then
 (ix d (wI ((wI (c+a)) - 1))).bind λ_=>
 ((d)[(wI ((wI (c+a)) - 1):Int).toNat]?).bind λbq=>
 (aE (wI (a+1),t,(d).set ((wI ((wI (c+a)) - 1):Int).toNat) 0,(f.1,()),(()),g,h,(()),())).bind λ(s,av,aw,cd,ax,w,br,_)=>rec (a,c,j,k,wI (e+1),((Query.mk s.1.dots s.1.arrows s.1.wher s.1.items s.1.dist),(Graph.mk s.2.1.nodes s.2.1.edges s.2.1.next),s.2.2.1,()),(aw.1,()),(()),ax,((Query.mk w.1.dots w.1.arrows w.1.wher w.1.items w.1.dist),()),(()),av,())
 else rec (a,c,j,k,wI (e+1),t,(f.1,()),(()),g,h,(()),d,()))
 else
 a0a (λay=>y0k aE n ay (λ(ba,bb,bc,bd,be,l,ah,bs,ai,x,bt,aj,_)=>rec (ba,bb,bc,bd,wI (be+1),((Query.mk l.1.dots l.1.arrows l.1.wher l.1.items l.1.dist),(Graph.mk l.2.1.nodes l.2.1.edges l.2.1.next),l.2.2.1,()),(ah.1,()),(()),ai,((Query.mk x.1.dots x.1.arrows x.1.wher x.1.items x.1.dist),()),(()),aj,())) (λ(_)=>none)) (n) (a,c,u.id,ad,j,k,e,b.2.1.edges,(b.2.1.edges.length:Int),0,ag,t,(f.1,()),(()),g,h,(()),d,()))
 else
 (bif v.many then
 (ix b.2.2.1 (wI (a - 1))).bind λbk=>
 (bif (a0k .pair .bool false bk (Ev.Pair.mk ad u.id))then
 (ix d (wI ((wI (c+a)) - 1))).bind λ_=>
 ((d)[(wI ((wI (c+a)) - 1):Int).toNat]?).bind λbo=>
 (aE (wI (a+1),t,(d).set ((wI ((wI (c+a)) - 1):Int).toNat) 0,(f.1,()),(()),g,h,(()),())).bind λ(m,ak,al,bu,am,y,bv,_)=>rec (a,c,j,k,wI (e+1),((Query.mk m.1.dots m.1.arrows m.1.wher m.1.items m.1.dist),(Graph.mk m.2.1.nodes m.2.1.edges m.2.1.next),m.2.2.1,()),(al.1,()),(()),am,((Query.mk y.1.dots y.1.arrows y.1.wher y.1.items y.1.dist),()),(()),ak,())
 else rec (a,c,j,k,wI (e+1),t,(f.1,()),(()),g,h,(()),d,()))
 else
 a0a (λaz=>y0k aE n az (λ(bf,bg,bh,bi,bj,o,an,bw,ao,z,bx,ap,_)=>rec (bf,bg,bh,bi,wI (bj+1),((Query.mk o.1.dots o.1.arrows o.1.wher o.1.items o.1.dist),(Graph.mk o.2.1.nodes o.2.1.edges o.2.1.next),o.2.2.1,()),(an.1,()),(()),ao,((Query.mk z.1.dots z.1.arrows z.1.wher z.1.items z.1.dist),()),(()),ap,())) (λ(_)=>none)) (n) (a,c,ad,u.id,j,k,e,b.2.1.edges,(b.2.1.edges.length:Int),0,ag,t,(f.1,()),(()),g,h,(()),d,()))))))
 else kx (ae,(f.1,()),(()),g,h,(()),ab,()))
theorem a1t{ρ:Type}(aE:Int×Y0×Y2×Y5×Unit×Y3×Y4×Unit×Unit->Option Y13)(n:Nat)(kx:Int×Int×Y17×Int×Int×Y0×Y5×Unit×Y3×Y4×Unit×Y2×Unit->Option ρ)(kr:Unit->Option ρ)(l:List Edg)(fuel:Nat)(f:Int)(g:Int)(q:Int)(r:Int)(h:List Ev.Node)(j:Int)(k:Int)(m:Ev.Arrow×Unit)(a:Query×Graph×(List Y7)×Unit)(c:Int×Unit)(o:Unit)(d:List Cnt)(b:Query×Unit)(p:Unit)(e:List Int)(hl:l.length<=9223372036854775807)(hf:l.length<fuel):
  a0a (λrc=>y0k aE n rc kx kr) fuel (f,g,q,r,h,j,k,l,(l.length:Int),0,m,a,c,o,d,b,p,e,())=a0b (j0q aE n kr) (λ(f,g,q,r,h,j,k,m,a,c,o,d,b,p,e,_)=>kx (f,g,h,j,k,((Query.mk a.1.dots a.1.arrows a.1.wher a.1.items a.1.dist),(Graph.mk a.2.1.nodes a.2.1.edges a.2.1.next),a.2.2.1,()),(c.1,()),(()),d,((Query.mk b.1.dots b.1.arrows b.1.wher b.1.items b.1.dist),()),(()),e,())) 0 l (f,g,q,r,h,j,k,m,a,c,o,d,b,p,e,()):=
 a0c l (λi (f,g,q,r,h,j,k,m,a,c,o,d,b,p,e,_)=>(f,g,q,r,h,j,k,l,(l.length:Int),i,m,a,c,o,d,b,p,e,())) _ _ _ (λrec i s=>rfl) hl fuel (f,g,q,r,h,j,k,m,a,c,o,d,b,p,e,()) hf
def t0q(aE:Int×Y0×Y2×Y5×Unit×Y3×Y4×Unit×Unit->Option Y13)(n:Nat):Int×Y0×Y2×Y5×Unit×Y3×Y4×Unit×Unit->Option Y13:=
 λ(t,a,r,i,o5,k,m,o8,_)=>let s:=((Query.mk a.1.dots a.1.arrows a.1.wher a.1.items a.1.dist),(Graph.mk a.2.1.nodes a.2.1.edges a.2.1.next),a.2.2.1,());let o:=((Query.mk m.1.dots m.1.arrows m.1.wher m.1.items m.1.dist),());
 (bif (t:Int)==(a.1.dots.length:Int)then
 dem2 (
 (q56z n (s,r,())).bind λ(p,b,u,_)=>let w:=((Query.mk b.1.dots b.1.arrows b.1.wher b.1.items b.1.dist),(Graph.mk b.2.1.nodes b.2.1.edges b.2.1.next),b.2.2.1,());
 (q69z n ((Envr.mk (Graph.mk p.g.nodes p.g.edges p.g.next) p.at_),b.1.wher,())).bind λ(ai,_)=>
 (bif ai then
 (b0q n (u,(i.1,()),(()),k,o,(()),w,())).bind λ(ab,ac,am,ad,j,ao,d,_)=>some (((Query.mk d.1.dots d.1.arrows d.1.wher d.1.items d.1.dist),(Graph.mk d.2.1.nodes d.2.1.edges d.2.1.next),d.2.2.1,()),ab,(ac.1,()),(()),ad,((Query.mk j.1.dots j.1.arrows j.1.wher j.1.items j.1.dist),()),(()),())
 else some (w,u,(i.1,()),(()),k,o,(()),()))) (
 (q56z n (s,r,())).bind λ(q,e,v,_)=>let x:=((Query.mk e.1.dots e.1.arrows e.1.wher e.1.items e.1.dist),(Graph.mk e.2.1.nodes e.2.1.edges e.2.1.next),e.2.2.1,());
 (q69z n ((Envr.mk (Graph.mk q.g.nodes q.g.edges q.g.next) q.at_),a.1.wher,())).bind λ(aj,_)=>
 (bif aj then
 (b0q n (v,(i.1,()),(()),k,o,(()),x,())).bind λ(ae,af,ap,ag,l,aq,f,_)=>some (((Query.mk f.1.dots f.1.arrows f.1.wher f.1.items f.1.dist),(Graph.mk f.2.1.nodes f.2.1.edges f.2.1.next),f.2.2.1,()),ae,(af.1,()),(()),ag,((Query.mk l.1.dots l.1.arrows l.1.wher l.1.items l.1.dist),()),(()),())
 else some (x,v,(i.1,()),(()),k,o,(()),())))
 else
 a0a (λah=>l0g aE n ah (λ(c,y,ak,z,h,al,aa,_)=>some (((Query.mk c.1.dots c.1.arrows c.1.wher c.1.items c.1.dist),(Graph.mk c.2.1.nodes c.2.1.edges c.2.1.next),c.2.2.1,()),aa,(y.1,()),(()),z,((Query.mk h.1.dots h.1.arrows h.1.wher h.1.items h.1.dist),()),(()),())) (λ(_)=>none)) (n) (t,(a.1.dots.length:Int),a.2.1.nodes,(a.2.1.nodes.length:Int),0,s,(i.1,()),(()),k,o,(()),r,()))
def q25z:Nat->Int×Y0×Y2×Y5×Unit×Y3×Y4×Unit×Unit->Option Y13
 | 0,_=>none
 |n+1,x=>t0q (q25z n) n x
def q24z(n:Nat):Y0×Y5×Unit×Y3×Y4×Unit×Unit->Option (Y0×Y5×Unit×Y3×Y4×Unit×Unit):=
 λ(a,h,o,j,d,p,_)=>
 (cnt? (wI ((a.1.dots.length:Int)+(a.1.arrows.length:Int)))).bind λe=>
 ck (room e 8) (
 (q25z n (0,((Query.mk a.1.dots a.1.arrows a.1.wher a.1.items a.1.dist),(Graph.mk a.2.1.nodes a.2.1.edges a.2.1.next),a.2.2.1,()),(List.replicate e 0),(h.1,()),(()),j,((Query.mk d.1.dots d.1.arrows d.1.wher d.1.items d.1.dist),()),(()),())).bind λ(b,k,f,l,g,c,m,_)=>some (((Query.mk b.1.dots b.1.arrows b.1.wher b.1.items b.1.dist),(Graph.mk b.2.1.nodes b.2.1.edges b.2.1.next),b.2.2.1,()),(f.1,()),(()),g,((Query.mk c.1.dots c.1.arrows c.1.wher c.1.items c.1.dist),()),(()),()))
def q19z:Y3×Unit->Option Y22:=
 λ(a,_)=>
 nilq a (some (([]:List Cnt),())) (
 ck (room (([]:List Cnt)++a).length 32) (some (([]:List Cnt)++a,())))
def r1m{ρ:Type}(n:Nat)(rec:Y9×Y9×Y9×Int×Int×Unit->Option ρ)(kx:Y9×Y9×Unit->Option ρ)(kr:Int×Unit->Option ρ):Y9×Y9×Y9×Int×Int×Unit->Option ρ:=
 λ(e,b,f,g,a,_)=>
 (bif decide ((a:Int)<g)then
 (ix f a).bind λc=>
 (bif decide ((a:Int) >=(b.length:Int))then kr (1,())
 else
 (ix b a).bind λd=>
 (k0i n ((Val.mk c.kind c.n c.s c.l),(Val.mk d.kind d.n d.s d.l),())).bind λ(h,_)=>
 (bif (h:Int) !=0 then kr (h,())
 else rec (e,b,f,g,wI (a+1),())))
 else kx (e,b,()))
def q2z(n:Nat):Y9×Y9×Unit->Option Y5:=
 λ(a,b,_)=>
 a0a (λc=>r1m n c (λ(d,e,_)=>
 (bif decide (((d.length:Int):Int)<(e.length:Int))then some ((-1),())
 else some (0,()))) (λ(f,_)=>some (f,()))) (n) (a,b,a,(a.length:Int),0,())
def q90z(n:Nat):Y9×Y9×Unit->Option Y5:=
 λ(a,b,_)=>
 (q2z n (a,b,())).bind λ(c,_)=>some (c,())
def q84z(n:Nat):Cnt×Cnt×Unit->Option Y5:=
 λ(a,b,_)=>
 (q90z n (a.r,b.r,())).bind λ(c,_)=>some (c,())
def e2n{ρ:Type}(n:Nat)(rec:Int×Int×Int×Int×Y3×Unit->Option ρ)(kx:Int×Int×Int×Y3×Unit->Option ρ)(kr:Unit->Option ρ):Int×Int×Int×Int×Y3×Unit->Option ρ:=
 λ(d,f,e,a,b,_)=>
 (bif decide ((a:Int) >d)then
 (ix b a).bind λ_=>
 ((b)[(a:Int).toNat]?).bind λg=>
 (ix b (wI (a - 1))).bind λ_=>
 ((b)[(wI (a - 1):Int).toNat]?).bind λh=>
 (q84z n ((Cnt.mk g.r g.n),(Cnt.mk h.r h.n),())).bind λ(k,_)=>
 (bif decide ((k:Int)<0)then
 (ix b (wI (a - 1))).bind λ_=>
 ((b)[(wI (a - 1):Int).toNat]?).bind λc=>
 (ix b a).bind λ_=>
 ((b)[(a:Int).toNat]?).bind λj=>
 (ix b a).bind λ_=>
 ((b)[(a:Int).toNat]?).bind λl=>
 (ix ((b).set ((a:Int).toNat) (Cnt.mk c.r c.n)) (wI (a - 1))).bind λ_=>
 (((b).set ((a:Int).toNat) (Cnt.mk c.r c.n))[(wI (a - 1):Int).toNat]?).bind λm=>rec (d,f,e,wI (a - 1),((b).set ((a:Int).toNat) (Cnt.mk c.r c.n)).set ((wI (a - 1):Int).toNat) (Cnt.mk j.r j.n),())
 else kx (d,f,e,b,()))
 else kx (d,f,e,b,()))
def d2k{ρ:Type}(n:Nat)(rec:Int×Int×Int×Y3×Unit->Option ρ)(kx:Y3×Unit->Option ρ)(kr:Unit->Option ρ):Int×Int×Int×Y3×Unit->Option ρ:=
 λ(j,c,a,b,_)=>
 (bif decide ((a:Int)<c)then
 a0a (λe=>e2n n e (λ(f,g,h,d,_)=>rec (f,g,wI (h+1),d,())) (λ(_)=>none)) (n) (j,c,a,a,b,())
 else kx (b,()))
def q7z(n:Nat):Int×Int×Y3×Unit->Option Y22:=
 λ(a,b,c,_)=>
 a0a (λe=>d2k n e (λ(d,_)=>some (d,())) (λ(_)=>none)) (n) (a,b,wI (a+1),c,())
def v1m{ρ:Type}(n:Nat)(rec:Int×Int×Int×Int×Y3×Unit->Option ρ)(kx:Y3×Unit->Option ρ)(kr:Unit->Option ρ):Int×Int×Int×Int×Y3×Unit->Option ρ:=
 λ(c,e,g,a,b,_)=>
 (bif decide ((a:Int)<g)then
 (ix b (wI (e+a))).bind λ_=>
 ((b)[(wI (e+a):Int).toNat]?).bind λd=>
 (ix b (wI (c+a))).bind λ_=>
 ((b)[(wI (c+a):Int).toNat]?).bind λf=>
 (ix b (wI (c+a))).bind λ_=>
 ((b)[(wI (c+a):Int).toNat]?).bind λh=>
 (ix ((b).set ((wI (c+a):Int).toNat) (Cnt.mk d.r d.n)) (wI (e+a))).bind λ_=>
 (((b).set ((wI (c+a):Int).toNat) (Cnt.mk d.r d.n))[(wI (e+a):Int).toNat]?).bind λj=>rec (c,e,g,wI (a+1),((b).set ((wI (c+a):Int).toNat) (Cnt.mk d.r d.n)).set ((wI (e+a):Int).toNat) (Cnt.mk f.r f.n),())
 else kx (b,()))
def q11z(n:Nat):Int×Int×Int×Y3×Unit->Option Y22:=
 λ(a,b,c,e,_)=>
 a0a (λf=>v1m n f (λ(d,_)=>some (d,())) (λ(_)=>none)) (n) (a,b,c,0,e,())
def p1h{ρ:Type}(n:Nat)(rec:Int×Int×Int×Y3×Unit->Option ρ)(kx:Int×Int×Y3×Unit->Option ρ)(kr:Unit->Option ρ):Int×Int×Int×Y3×Unit->Option ρ:=
 λ(b,a,c,d,_)=>
 (bif (a:Int) !=c then
 (bif decide ((a:Int) >c)then
 (q11z n (wI (b - a),b,c,d,())).bind λ(f,_)=>rec (b,wI (a - c),c,f,())
 else
 (q11z n (wI (b - a),wI ((wI (b+c)) - a),a,d,())).bind λ(e,_)=>rec (b,a,wI (c - a),e,()))
 else kx (b,a,d,()))
def q14z(n:Nat):Int×Int×Int×Y3×Unit->Option Y22:=
 λ(d,a,e,h,_)=>
 a0a (λj=>p1h n j (λ(b,c,f,_)=>
 (q11z n (wI (b - c),b,c,f,())).bind λ(g,_)=>some (g,())) (λ(_)=>none)) (n) (a,wI (a - d),wI (e - a),h,())
def s1a{ρ:Type}(aC:Int×Int×Int×Y3×Unit->Option Y22)(n:Nat)(rec:Int×Int×Int×Y3×Unit->Option ρ)(kx:Int×Int×Y3×Unit->Option ρ)(kr:Unit->Option ρ):Int×Int×Int×Y3×Unit->Option ρ:=
 λ(d,b,c,a,_)=>
 (bif decide ((b:Int)<c)then
 (ix a (wI (bshr .u64 (IntKind.wrap .u64 (wI (b+c))) 1))).bind λ_=>
 ((a)[(wI (bshr .u64 (IntKind.wrap .u64 (wI (b+c))) 1):Int).toNat]?).bind λe=>
 (ix a d).bind λ_=>
 ((a)[(d:Int).toNat]?).bind λf=>
 (q84z n ((Cnt.mk e.r e.n),(Cnt.mk f.r f.n),())).bind λ(g,_)=>
 (bif decide ((g:Int)<0)then rec (d,wI ((wI (bshr .u64 (IntKind.wrap .u64 (wI (b+c))) 1))+1),c,a,())
 else rec (d,b,wI (bshr .u64 (IntKind.wrap .u64 (wI (b+c))) 1),a,()))
 else kx (d,b,a,()))
def r1y{ρ:Type}(aC:Int×Int×Int×Y3×Unit->Option Y22)(n:Nat)(rec:Int×Int×Y3×Unit->Option ρ)(kx:Y3×Unit->Option ρ)(kr:Unit->Option ρ):Int×Int×Y3×Unit->Option ρ:=
 λ(e,a,b,_)=>
 (bif decide ((a:Int)<(wI (e - 1)))then
 (ix b (wI (a+1))).bind λ_=>
 ((b)[(wI (a+1):Int).toNat]?).bind λc=>
 (ix b a).bind λ_=>
 ((b)[(a:Int).toNat]?).bind λd=>
 (ix b a).bind λ_=>
 ((b)[(a:Int).toNat]?).bind λf=>
 (ix ((b).set ((a:Int).toNat) (Cnt.mk c.r c.n)) (wI (a+1))).bind λ_=>
 (((b).set ((a:Int).toNat) (Cnt.mk c.r c.n))[(wI (a+1):Int).toNat]?).bind λg=>rec (e,wI (a+1),((b).set ((a:Int).toNat) (Cnt.mk c.r c.n)).set ((wI (a+1):Int).toNat) (Cnt.mk d.r d.n),())
 else kx (b,()))
def w1c{ρ:Type}(aC:Int×Int×Int×Y3×Unit->Option Y22)(n:Nat)(rec:Int×Int×Int×Y3×Unit->Option ρ)(kx:Int×Int×Y3×Unit->Option ρ)(kr:Unit->Option ρ):Int×Int×Int×Y3×Unit->Option ρ:=
 λ(d,b,c,a,_)=>
 (bif decide ((b:Int)<c)then
 (ix a d).bind λ_=>
 ((a)[(d:Int).toNat]?).bind λe=>
 (ix a (wI (bshr .u64 (IntKind.wrap .u64 (wI (b+c))) 1))).bind λ_=>
 ((a)[(wI (bshr .u64 (IntKind.wrap .u64 (wI (b+c))) 1):Int).toNat]?).bind λf=>
 (q84z n ((Cnt.mk e.r e.n),(Cnt.mk f.r f.n),())).bind λ(g,_)=>
 (bif !(decide ((g:Int)<0))then rec (d,wI ((wI (bshr .u64 (IntKind.wrap .u64 (wI (b+c))) 1))+1),c,a,())
 else rec (d,b,wI (bshr .u64 (IntKind.wrap .u64 (wI (b+c))) 1),a,()))
 else kx (d,b,a,()))
def o1r{ρ:Type}(aC:Int×Int×Int×Y3×Unit->Option Y22)(n:Nat)(rec:Int×Int×Y3×Unit->Option ρ)(kx:Y3×Unit->Option ρ)(kr:Unit->Option ρ):Int×Int×Y3×Unit->Option ρ:=
 λ(e,a,b,_)=>
 (bif decide ((a:Int) >e)then
 (ix b (wI (a - 1))).bind λ_=>
 ((b)[(wI (a - 1):Int).toNat]?).bind λc=>
 (ix b a).bind λ_=>
 ((b)[(a:Int).toNat]?).bind λd=>
 (ix b a).bind λ_=>
 ((b)[(a:Int).toNat]?).bind λf=>
 (ix ((b).set ((a:Int).toNat) (Cnt.mk c.r c.n)) (wI (a - 1))).bind λ_=>
 (((b).set ((a:Int).toNat) (Cnt.mk c.r c.n))[(wI (a - 1):Int).toNat]?).bind λg=>rec (e,wI (a - 1),((b).set ((a:Int).toNat) (Cnt.mk c.r c.n)).set ((wI (a - 1):Int).toNat) (Cnt.mk d.r d.n),())
 else kx (b,()))
def g1i{ρ:Type}(aC:Int×Int×Int×Y3×Unit->Option Y22)(n:Nat)(rec:Int×Int×Int×Int×Int×Int×Int×Int×Y3×Unit->Option ρ)(kx:Int×Int×Int×Int×Int×Int×Y3×Unit->Option ρ)(kr:Unit->Option ρ):Int×Int×Int×Int×Int×Int×Int×Int×Y3×Unit->Option ρ:=
 λ(e,f,g,h,j,a,b,d,c,_)=>
 (bif decide ((a:Int)<b)then
 (ix c (wI (d - (wI (bshr .u64 (IntKind.wrap .u64 (wI (a+b))) 1))))).bind λ_=>
 ((c)[(wI (d - (wI (bshr .u64 (IntKind.wrap .u64 (wI (a+b))) 1))):Int).toNat]?).bind λk=>
 (ix c (wI (bshr .u64 (IntKind.wrap .u64 (wI (a+b))) 1))).bind λ_=>
 ((c)[(wI (bshr .u64 (IntKind.wrap .u64 (wI (a+b))) 1):Int).toNat]?).bind λl=>
 (q84z n ((Cnt.mk k.r k.n),(Cnt.mk l.r l.n),())).bind λ(m,_)=>
 (bif !(decide ((m:Int)<0))then rec (e,f,g,h,j,wI ((wI (bshr .u64 (IntKind.wrap .u64 (wI (a+b))) 1))+1),b,d,c,())
 else rec (e,f,g,h,j,a,wI (bshr .u64 (IntKind.wrap .u64 (wI (a+b))) 1),d,c,()))
 else kx (e,f,g,h,j,a,c,()))
def e2j(aC:Int×Int×Int×Y3×Unit->Option Y22)(n:Nat):Int×Int×Int×Y3×Unit->Option Y22:=
 λ(c,d,e,m,_)=>
 (bif (wI (d - c):Int)==1 then
 a0a (λap=>s1a aC n ap (λ(av,aw,ab,_)=>
 a0a (λao=>r1y aC n ao (λ(ac,_)=>some (ac,())) (λ(_)=>none)) (n) (aw,av,ab,())) (λ(_)=>none)) (n) (c,d,e,m,())
 else
 (bif (wI (e - d):Int)==1 then
 a0a (λar=>w1c aC n ar (λ(ax,ay,ad,_)=>
 a0a (λaq=>o1r aC n aq (λ(ae,_)=>some (ae,())) (λ(_)=>none)) (n) (ay,ax,ad,())) (λ(_)=>none)) (n) (d,c,d,m,())
 else
 (bif decide ((d:Int) >(wI (bshr .u64 (IntKind.wrap .u64 (wI (c+e))) 1)))then
 a0a (λau=>g1i aC n au (λ(q,v,k,h,f,a,o,_)=>
 (bif (decide ((a:Int)<v))&& (decide ((v:Int)<(wI (f - a))))then
 (q14z n (a,v,wI (f - a),o,())).bind λ(s,_)=>
 (bif (decide ((q:Int)<a))&& (decide ((a:Int)<h))then
 (aC (q,a,h,s,())).bind λ(x,_)=>
 (bif (decide ((h:Int)<(wI (f - a))))&& (decide ((wI (f - a):Int)<k))then
 (aC (h,wI (f - a),k,x,())).bind λ(af,_)=>some (af,())
 else some (x,()))
 else
 (bif (decide ((h:Int)<(wI (f - a))))&& (decide ((wI (f - a):Int)<k))then
 (aC (h,wI (f - a),k,s,())).bind λ(ag,_)=>some (ag,())
 else some (s,())))
 else
 (bif (decide ((q:Int)<a))&& (decide ((a:Int)<h))then
 (aC (q,a,h,o,())).bind λ(y,_)=>
 (bif (decide ((h:Int)<(wI (f - a))))&& (decide ((wI (f - a):Int)<k))then
 (aC (h,wI (f - a),k,y,())).bind λ(ah,_)=>some (ah,())
 else some (y,()))
 else
 (bif (decide ((h:Int)<(wI (f - a))))&& (decide ((wI (f - a):Int)<k))then
 (aC (h,wI (f - a),k,o,())).bind λ(ai,_)=>some (ai,())
 else some (o,()))))) (λ(_)=>none)) (n) (c,d,e,wI (bshr .u64 (IntKind.wrap .u64 (wI (c+e))) 1),wI ((wI (bshr .u64 (IntKind.wrap .u64 (wI (c+e))) 1))+d),wI ((wI ((wI (bshr .u64 (IntKind.wrap .u64 (wI (c+e))) 1))+d)) - e),wI (bshr .u64 (IntKind.wrap .u64 (wI (c+e))) 1),wI ((wI ((wI (bshr .u64 (IntKind.wrap .u64 (wI (c+e))) 1))+d)) - 1),m,())
 else
 a0a (λan=>g1i aC n an (λ(r,w,l,j,g,b,p,_)=>
 (bif (decide ((b:Int)<w))&& (decide ((w:Int)<(wI (g - b))))then
 (q14z n (b,w,wI (g - b),p,())).bind λ(t,_)=>
 (bif (decide ((r:Int)<b))&& (decide ((b:Int)<j))then
 (aC (r,b,j,t,())).bind λ(z,_)=>
 (bif (decide ((j:Int)<(wI (g - b))))&& (decide ((wI (g - b):Int)<l))then
 (aC (j,wI (g - b),l,z,())).bind λ(aj,_)=>some (aj,())
 else some (z,()))
 else
 (bif (decide ((j:Int)<(wI (g - b))))&& (decide ((wI (g - b):Int)<l))then
 (aC (j,wI (g - b),l,t,())).bind λ(ak,_)=>some (ak,())
 else some (t,())))
 else
 (bif (decide ((r:Int)<b))&& (decide ((b:Int)<j))then
 (aC (r,b,j,p,())).bind λ(aa,_)=>
 (bif (decide ((j:Int)<(wI (g - b))))&& (decide ((wI (g - b):Int)<l))then
 (aC (j,wI (g - b),l,aa,())).bind λ(al,_)=>some (al,())
 else some (aa,()))
 else
 (bif (decide ((j:Int)<(wI (g - b))))&& (decide ((wI (g - b):Int)<l))then
 (aC (j,wI (g - b),l,p,())).bind λ(am,_)=>some (am,())
 else some (p,()))))) (λ(_)=>none)) (n) (c,d,e,wI (bshr .u64 (IntKind.wrap .u64 (wI (c+e))) 1),wI ((wI (bshr .u64 (IntKind.wrap .u64 (wI (c+e))) 1))+d),c,d,wI ((wI ((wI (bshr .u64 (IntKind.wrap .u64 (wI (c+e))) 1))+d)) - 1),m,()))))
def q12z:Nat->Int×Int×Int×Y3×Unit->Option Y22
 | 0,_=>none
 |n+1,x=>e2j (q12z n) n x
def x1l{ρ:Type}(n:Nat)(rec:Int×Int×Int×Int×Y3×Unit->Option ρ)(kx:Int×Int×Int×Y3×Unit->Option ρ)(kr:Unit->Option ρ):Int×Int×Int×Int×Y3×Unit->Option ρ:=
 λ(b,c,e,a,d,_)=>
 (bif decide ((a:Int)<=b)then
 (q7z n (e,a,d,())).bind λ(f,_)=>rec (b,c,a,wI (a+c),f,())
 else kx (b,c,e,d,()))
def u1r{ρ:Type}(n:Nat)(rec:Int×Int×Int×Int×Y3×Unit->Option ρ)(kx:Int×Int×Int×Y3×Unit->Option ρ)(kr:Unit->Option ρ):Int×Int×Int×Int×Y3×Unit->Option ρ:=
 λ(c,a,d,b,e,_)=>
 (bif decide ((b:Int)<=c)then
 (q12z n (d,wI (d+a),b,e,())).bind λ(f,_)=>rec (c,a,b,wI (b+(wI (2*a))),f,())
 else kx (c,a,d,e,()))
def p1o{ρ:Type}(n:Nat)(rec:Int×Int×Y3×Unit->Option ρ)(kx:Y3×Unit->Option ρ)(kr:Unit->Option ρ):Int×Int×Y3×Unit->Option ρ:=
 λ(g,c,e,_)=>
 (bif decide ((c:Int)<g)then
 a0a (λj=>u1r n j (λ(a,b,d,f,_)=>
 (bif decide ((wI (d+b):Int)<a)then
 (q12z n (d,wI (d+b),a,f,())).bind λ(h,_)=>rec (a,wI (b*2),h,())
 else rec (a,wI (b*2),f,()))) (λ(_)=>none)) (n) (g,c,0,wI (2*c),e,())
 else kx (e,()))
def q15z(n:Nat):Int×Y3×Unit->Option Y22:=
 λ(b,e,_)=>
 a0a (λh=>x1l n h (λ(a,i,j,c,_)=>
 (q7z n (j,a,c,())).bind λ(d,_)=>
 a0a (λg=>p1o n g (λ(f,_)=>some (f,())) (λ(_)=>none)) (n) (a,i,d,())) (λ(_)=>none)) (n) (b,20,0,20,e,())
def q5z(n:Nat):Y3×Unit->Option Y22:=
 λ(a,_)=>
 (q15z n ((a.length:Int),a,())).bind λ(b,_)=>some (b,())
def q0x{ρ:Type}(n:Nat)(kr:Unit->Option ρ):Int->Val->(Y9×Unit)->((Y9×Unit)->Option ρ)->Option ρ:=
 λd b (c,_) rec=>
 (i0j n ((Val.mk b.kind b.n b.s b.l),())).bind λ(a,_)=>
 ck (room (c++([(Val.mk a.kind a.n a.s a.l)]:List Val)).length 56) (rec (c++([(Val.mk a.kind a.n a.s a.l)]:List Val),()))
def g1n{ρ:Type}(n:Nat)(rec:Y9×Int×Int×Y9×Unit->Option ρ)(kx:Y9×Unit->Option ρ)(kr:Unit->Option ρ):Y9×Int×Int×Y9×Unit->Option ρ:=
 λ(e,f,d,c,_)=>
 (bif decide ((d:Int)<f)then
 (ix e d).bind λb=>
 (i0j n ((Val.mk b.kind b.n b.s b.l),())).bind λ(a,_)=>
 ck (room (c++([(Val.mk a.kind a.n a.s a.l)]:List Val)).length 56) (rec (e,f,wI (d+1),c++([(Val.mk a.kind a.n a.s a.l)]:List Val),()))
 else kx (c,()))
theorem s1h{ρ:Type}(n:Nat)(kx:Y9×Unit->Option ρ)(kr:Unit->Option ρ)(l:List Val)(fuel:Nat)(a:List Val)(hl:l.length<=9223372036854775807)(hf:l.length<fuel):
  a0a (λrc=>g1n n rc kx kr) fuel (l,(l.length:Int),0,a,())=a0b (q0x n kr) (λ(a,_)=>kx (a,())) 0 l (a,()):=
 a0c l (λi (a,_)=>(l,(l.length:Int),i,a,())) _ _ _ (λrec i s=>rfl) hl fuel (a,()) hf
def q91z(n:Nat):Y9×Unit->Option (Y9×Unit):=
 λ(a,_)=>
 a0a (λc=>g1n n c (λ(b,_)=>some (b,())) (λ(_)=>none)) (n) (a,(a.length:Int),0,([]:List Val),())
def q85z:Cnt×Unit->Option Y11:=
 λ(a,_)=>some ((a.n:Int)==0,())
def f0n{ρ:Type}(n:Nat)(kr:Int×Unit->Option ρ):Int->Cnt->Unit->(Unit->Option ρ)->Option ρ:=
 λb a (_) rec=>
 (q85z ((Cnt.mk a.r a.n),())).bind λ(c,_)=>
 (bif c then kr (b,())
 else rec (()))
def d1v{ρ:Type}(n:Nat)(rec:Y3×Int×Int×Unit->Option ρ)(kx:Unit->Option ρ)(kr:Int×Unit->Option ρ):Y3×Int×Int×Unit->Option ρ:=
 λ(b,c,a,_)=>
 (bif decide ((a:Int)<c)then
 (ix b a).bind λd=>
 (q85z ((Cnt.mk d.r d.n),())).bind λ(e,_)=>
 (bif e then kr (a,())
 else rec (b,c,wI (a+1),()))
 else kx (()))
theorem x1i{ρ:Type}(n:Nat)(kx:Unit->Option ρ)(kr:Int×Unit->Option ρ)(l:List Cnt)(fuel:Nat)(hl:l.length<=9223372036854775807)(hf:l.length<fuel):
  a0a (λrc=>d1v n rc kx kr) fuel (l,(l.length:Int),0,())=a0b (f0n n kr) (λ(_)=>kx (())) 0 l (()):=
 a0c l (λi (_)=>(l,(l.length:Int),i,())) _ _ _ (λrec i s=>rfl) hl fuel (()) hf
def q10z(n:Nat):Y3×Unit->Option Y5:=
 λ(a,_)=>
 a0a (λb=>d1v n b (λ(_)=>some ((-1),())) (λ(c,_)=>some (c,()))) (n) (a,(a.length:Int),0,())
def v0i{ρ:Type}(n:Nat)(rec:Int×Int×Y3×Unit->Option ρ)(kx:Int×Y3×Unit->Option ρ)(kr:Unit->Option ρ):Int×Int×Y3×Unit->Option ρ:=
 λ(b,c,a,_)=>
 (bif decide ((c:Int)<(a.length:Int))then
 (ix a c).bind λ_=>
 ((a)[(c:Int).toNat]?).bind λd=>
 (q85z ((Cnt.mk d.r d.n),())).bind λ(e,_)=>
 (bif !e then
 (ix a b).bind λ_=>
 ((a)[(b:Int).toNat]?).bind λf=>rec (wI (b+1),wI (c+1),(a).set ((b:Int).toNat) (Cnt.mk d.r d.n),())
 else rec (b,wI (c+1),a,()))
 else kx (b,a,()))
def q8z(n:Nat):Y3×Unit->Option Y22:=
 λ(c,_)=>
 (q10z n (c,())).bind λ(d,_)=>
 (bif (d:Int)==(-1)then some (c,())
 else
 a0a (λf=>v0i n f (λ(a,b,_)=>
 ck (decide (0<=(a:Int)/\(a:Int)<=((b).length:Int))) (
 ck (Nat.ble ((a:Int).toNat+((b).length - (a:Int).toNat)) (b).length) (
 (cut? (clrL b ((a:Int).toNat) ((b).length - (a:Int).toNat) (Cnt.mk ([]:List Val) 0)) a).bind λe=>some (e,())))) (λ(_)=>none)) (n) (d,wI (d+1),c,()))
def h0e{ρ:Type}(n:Nat)(kr:Unit->Option ρ):Int->Cnt->Y22->(Y22->Option ρ)->Option ρ:=
 λj b (a,_) rec=>
 (bif decide ((wI ((a.length:Int) - 1):Int) >=0)then
 (ix a (wI ((a.length:Int) - 1))).bind λ_=>
 ((a)[(wI ((a.length:Int) - 1):Int).toNat]?).bind λe=>
 (q90z n (e.r,b.r,())).bind λ(h,_)=>
 (bif (h:Int)==0 then
 (ix a (wI ((a.length:Int) - 1))).bind λ_=>
 ((a)[(wI ((a.length:Int) - 1):Int).toNat]?).bind λf=>
 (ix a (wI ((a.length:Int) - 1))).bind λ_=>
 ((a)[(wI ((a.length:Int) - 1):Int).toNat]?).bind λg=>rec ((a).set ((wI ((a.length:Int) - 1):Int).toNat) (Cnt.mk g.r (wI (f.n+b.n))),())
 else
 (q91z n (b.r,())).bind λ(c,_)=>
 ck (room (a++([(Cnt.mk c b.n)]:List Cnt)).length 32) (rec (a++([(Cnt.mk c b.n)]:List Cnt),())))
 else
 (q91z n (b.r,())).bind λ(d,_)=>
 ck (room (a++([(Cnt.mk d b.n)]:List Cnt)).length 32) (rec (a++([(Cnt.mk d b.n)]:List Cnt),())))
def x0c{ρ:Type}(n:Nat)(rec:Y3×Int×Int×Y3×Unit->Option ρ)(kx:Y3×Unit->Option ρ)(kr:Unit->Option ρ):Y3×Int×Int×Y3×Unit->Option ρ:=
 λ(d,e,c,a,_)=>
 (bif decide ((c:Int)<e)then
 (ix d c).bind λb=>
 (bif decide ((wI ((a.length:Int) - 1):Int) >=0)then
 (ix a (wI ((a.length:Int) - 1))).bind λ_=>
 ((a)[(wI ((a.length:Int) - 1):Int).toNat]?).bind λh=>
 (q90z n (h.r,b.r,())).bind λ(l,_)=>
 (bif (l:Int)==0 then
 (ix a (wI ((a.length:Int) - 1))).bind λ_=>
 ((a)[(wI ((a.length:Int) - 1):Int).toNat]?).bind λj=>
 (ix a (wI ((a.length:Int) - 1))).bind λ_=>
 ((a)[(wI ((a.length:Int) - 1):Int).toNat]?).bind λk=>rec (d,e,wI (c+1),(a).set ((wI ((a.length:Int) - 1):Int).toNat) (Cnt.mk k.r (wI (j.n+b.n))),())
 else
 (q91z n (b.r,())).bind λ(f,_)=>
 ck (room (a++([(Cnt.mk f b.n)]:List Cnt)).length 32) (rec (d,e,wI (c+1),a++([(Cnt.mk f b.n)]:List Cnt),())))
 else
 (q91z n (b.r,())).bind λ(g,_)=>
 ck (room (a++([(Cnt.mk g b.n)]:List Cnt)).length 32) (rec (d,e,wI (c+1),a++([(Cnt.mk g b.n)]:List Cnt),())))
 else kx (a,()))
theorem m1b{ρ:Type}(n:Nat)(kx:Y3×Unit->Option ρ)(kr:Unit->Option ρ)(l:List Cnt)(fuel:Nat)(a:List Cnt)(hl:l.length<=9223372036854775807)(hf:l.length<fuel):
  a0a (λrc=>x0c n rc kx kr) fuel (l,(l.length:Int),0,a,())=a0b (h0e n kr) (λ(a,_)=>kx (a,())) 0 l (a,()):=
 a0c l (λi (a,_)=>(l,(l.length:Int),i,a,())) _ _ _ (λrec i s=>rfl) hl fuel (a,()) hf
def a1o(n:Nat):Y3×Unit->Option Y22:=
 λ(b,_)=>
 (q19z (b,())).bind λ(e,_)=>
 (q5z n (e,())).bind λ(a,_)=>
 a0a (λf=>x0c n f (λ(c,_)=>
 (q8z n (c,())).bind λ(d,_)=>some (d,())) (λ(_)=>none)) (n) (a,(a.length:Int),0,([]:List Cnt),())
def q77z:Ev.Item×Unit->Option Y11:=
 λ(a,_)=>some (!(seq a.agg zb0),())
def q0j{ρ:Type}(n:Nat)(kr:Int×Unit->Option ρ):Int->Ev.Item->Unit->(Unit->Option ρ)->Option ρ:=
 λc b (_) rec=>
 (q77z ((Ev.Item.mk b.name b.agg (Term.mk b.t.kind (Val.mk b.t.v.kind b.t.v.n b.t.v.s b.t.v.l) b.t.name b.t.a)),())).bind λ(d,_)=>
 (bif d then kr (c,())
 else rec (()))
def t1l{ρ:Type}(n:Nat)(rec:Y31×Int×Int×Unit->Option ρ)(kx:Unit->Option ρ)(kr:Int×Unit->Option ρ):Y31×Int×Int×Unit->Option ρ:=
 λ(d,e,c,_)=>
 (bif decide ((c:Int)<e)then
 (ix d c).bind λb=>
 (q77z ((Ev.Item.mk b.name b.agg (Term.mk b.t.kind (Val.mk b.t.v.kind b.t.v.n b.t.v.s b.t.v.l) b.t.name b.t.a)),())).bind λ(f,_)=>
 (bif f then kr (c,())
 else rec (d,e,wI (c+1),()))
 else kx (()))
theorem z1i{ρ:Type}(n:Nat)(kx:Unit->Option ρ)(kr:Int×Unit->Option ρ)(l:List Ev.Item)(fuel:Nat)(hl:l.length<=9223372036854775807)(hf:l.length<fuel):
  a0a (λrc=>t1l n rc kx kr) fuel (l,(l.length:Int),0,())=a0b (q0j n kr) (λ(_)=>kx (())) 0 l (()):=
 a0c l (λi (_)=>(l,(l.length:Int),i,())) _ _ _ (λrec i s=>rfl) hl fuel (()) hf
def q9z(n:Nat):Y31×Unit->Option Y5:=
 λ(a,_)=>
 a0a (λb=>t1l n b (λ(_)=>some ((-1),())) (λ(c,_)=>some (c,()))) (n) (a,(a.length:Int),0,())
def q6z(n:Nat):Y31×Unit->Option Y11:=
 λ(a,_)=>
 (q9z n (a,())).bind λ(b,_)=>some (decide ((b:Int) >=0),())
def q89z(n:Nat):Query×Unit->Option Y11:=
 λ(a,_)=>
 (q6z n (a.items,())).bind λ(b,_)=>some (b,())
def q1d{ρ:Type}(n:Nat)(rec:Y3×Int×Int×Y3×Unit->Option ρ)(kx:Y3×Unit->Option ρ)(kr:Unit->Option ρ):Y3×Int×Int×Y3×Unit->Option ρ:=
 λ(d,e,c,a,_)=>
 (bif decide ((c:Int)<e)then
 (ix d c).bind λb=>
 (bif decide ((wI ((a.length:Int) - 1):Int) >=0)then
 (ix a (wI ((a.length:Int) - 1))).bind λ_=>
 ((a)[(wI ((a.length:Int) - 1):Int).toNat]?).bind λh=>
 (q90z n (h.r,b.r,())).bind λ(l,_)=>
 (bif (l:Int)==0 then
 (ix a (wI ((a.length:Int) - 1))).bind λ_=>
 ((a)[(wI ((a.length:Int) - 1):Int).toNat]?).bind λj=>
 (ix a (wI ((a.length:Int) - 1))).bind λ_=>
 ((a)[(wI ((a.length:Int) - 1):Int).toNat]?).bind λk=>rec (d,e,wI (c+1),(a).set ((wI ((a.length:Int) - 1):Int).toNat) (Cnt.mk k.r (wI (j.n+b.n))),())
 else
 (q91z n (b.r,())).bind λ(f,_)=>
 ck (room (a++([(Cnt.mk f b.n)]:List Cnt)).length 32) (rec (d,e,wI (c+1),a++([(Cnt.mk f b.n)]:List Cnt),())))
 else
 (q91z n (b.r,())).bind λ(g,_)=>
 ck (room (a++([(Cnt.mk g b.n)]:List Cnt)).length 32) (rec (d,e,wI (c+1),a++([(Cnt.mk g b.n)]:List Cnt),())))
 else kx (a,()))
def q71z(n:Nat):Y3×Unit->Option Y22:=
 λ(b,_)=>
 (q19z (b,())).bind λ(e,_)=>
 (q5z n (e,())).bind λ(a,_)=>
 a0a (λf=>q1d n f (λ(c,_)=>
 (q8z n (c,())).bind λ(d,_)=>some (d,())) (λ(_)=>none)) (n) (a,(a.length:Int),0,([]:List Cnt),())
def h0a{ρ:Type}(n:Nat)(kr:Unit->Option ρ):Int->Int->(Y9×Y9×Unit)->((Y9×Y9×Unit)->Option ρ)->Option ρ:=
 λe d (c,b,_) rec=>
 (ix c d).bind λa=>
 ck (room (b++([(Val.mk a.kind a.n a.s a.l)]:List Val)).length 56) (rec (c,b++([(Val.mk a.kind a.n a.s a.l)]:List Val),()))
def w0z{ρ:Type}(n:Nat)(rec:Y9×Y2×Int×Int×Y9×Unit->Option ρ)(kx:Y9×Unit->Option ρ)(kr:Unit->Option ρ):Y9×Y2×Int×Int×Y9×Unit->Option ρ:=
 λ(e,c,d,a,b,_)=>
 (bif decide ((a:Int)<d)then
 (ix c a).bind λh=>h0a n kr a h (e,b,()) (λ(f,g,_)=>rec (f,c,d,wI (a+1),g,()))
 else kx (b,()))
theorem l1w{ρ:Type}(n:Nat)(kx:Y9×Unit->Option ρ)(kr:Unit->Option ρ)(l:List Int)(fuel:Nat)(b:List Val)(a:List Val)(hl:l.length<=9223372036854775807)(hf:l.length<fuel):
  a0a (λrc=>w0z n rc kx kr) fuel (b,l,(l.length:Int),0,a,())=a0b (h0a n kr) (λ(b,a,_)=>kx (a,())) 0 l (b,a,()):=
 a0c l (λi (b,a,_)=>(b,l,(l.length:Int),i,a,())) _ _ _ (λrec i s=>rfl) hl fuel (b,a,()) hf
def b2n(n:Nat):Y9×Y2×Unit->Option (Y9×Unit):=
 λ(b,a,_)=>
 a0a (λd=>w0z n d (λ(c,_)=>some (c,())) (λ(_)=>none)) (n) (b,a,(a.length:Int),0,([]:List Val),())
def r0l{ρ:Type}(n:Nat)(rec:Int×Int×Y2×Unit->Option ρ)(kx:Y2×Unit->Option ρ)(kr:Unit->Option ρ):Int×Int×Y2×Unit->Option ρ:=
 λ(b,c,a,_)=>
 (bif decide ((c:Int) >=0)then
 (h1x (wI (8*c))).bind λd=>
 ck (room (a++([IntKind.wrap .u8 (bshr .u64 b d)]:List Int)).length 1) (rec (b,wI (c - 1),a++([IntKind.wrap .u8 (bshr .u64 b d)]:List Int),()))
 else kx (a,()))
def q92z(n:Nat):Int×Int×Y2×Unit->Option Y44:=
 λ(a,b,c,_)=>
 a0a (λe=>r0l n e (λ(d,_)=>some (d,())) (λ(_)=>none)) (n) (a,wI (b - 1),c,())
def e0l{ρ:Type}(aN:Val×Y2×Unit->Option Y44)(n:Nat)(rec:Y9×Int×Int×Y2×Unit->Option ρ)(kx:Y2×Unit->Option ρ)(kr:Unit->Option ρ):Y9×Int×Int×Y2×Unit->Option ρ:=
 λ(d,e,b,c,_)=>
 (bif decide ((b:Int)<e)then
 (ix d b).bind λa=>
 (aN ((Val.mk a.kind a.n a.s a.l),c,())).bind λ(f,_)=>rec (d,e,wI (b+1),f,())
 else kx (c,()))
def e0k(aN:Val×Y2×Unit->Option Y44)(n:Nat):Val×Y2×Unit->Option Y44:=
 λ(a,b,_)=>
 ck (room (b++([IntKind.wrap .u8 (a.kind)]:List Int)).length 1) (
 (bif (a.kind:Int)==1 then
 (bif (a.kind:Int)==1 then
 (q92z n (bxor .u64 (IntKind.wrap .u64 (a.n)) 9223372036854775808,8,b++([IntKind.wrap .u8 (a.kind)]:List Int),())).bind λ(h,_)=>some (h,())
 else
 (bif (a.kind:Int)==3 then
 (q92z n (IntKind.wrap .u64 ((a.s.size:Int)),2,b++([IntKind.wrap .u8 (a.kind)]:List Int),())).bind λ(d,_)=>
 ck (room (d++(d0d a.s)).length 1) (some (d++(d0d a.s),()))
 else
 (bif (a.kind:Int)==4 then
 ck (room ((b++([IntKind.wrap .u8 (a.kind)]:List Int))++([IntKind.wrap .u8 ((a.l.length:Int))]:List Int)).length 1) (
 a0a (λi=>e0l aN n i (λ(e,_)=>some (e,())) (λ(_)=>none)) (n) (a.l,(a.l.length:Int),0,(b++([IntKind.wrap .u8 (a.kind)]:List Int))++([IntKind.wrap .u8 ((a.l.length:Int))]:List Int),()))
 else some (b++([IntKind.wrap .u8 (a.kind)]:List Int),()))))
 else
 (bif (a.kind:Int)==2 then
 (q92z n (bxor .u64 (IntKind.wrap .u64 (a.n)) 9223372036854775808,8,b++([IntKind.wrap .u8 (a.kind)]:List Int),())).bind λ(f,_)=>some (f,())
 else
 (bif (a.kind:Int)==3 then
 (q92z n (IntKind.wrap .u64 ((a.s.size:Int)),2,b++([IntKind.wrap .u8 (a.kind)]:List Int),())).bind λ(c,_)=>
 ck (room (c++(d0d a.s)).length 1) (some (c++(d0d a.s),()))
 else
 (bif (a.kind:Int)==4 then
 ck (room ((b++([IntKind.wrap .u8 (a.kind)]:List Int))++([IntKind.wrap .u8 ((a.l.length:Int))]:List Int)).length 1) (
 a0a (λj=>e0l aN n j (λ(g,_)=>some (g,())) (λ(_)=>none)) (n) (a.l,(a.l.length:Int),0,(b++([IntKind.wrap .u8 (a.kind)]:List Int))++([IntKind.wrap .u8 ((a.l.length:Int))]:List Int),()))
 else some (b++([IntKind.wrap .u8 (a.kind)]:List Int),()))))))
def d0k:Nat->Val×Y2×Unit->Option Y44
 | 0,_=>none
 |n+1,x=>e0k (d0k n) n x
def f0d{ρ:Type}(n:Nat)(kr:Unit->Option ρ):Int->Val->Y44->(Y44->Option ρ)->Option ρ:=
 λd a (b,_) rec=>
 (d0k n ((Val.mk a.kind a.n a.s a.l),b,())).bind λ(c,_)=>rec (c,())
def k0r{ρ:Type}(n:Nat)(rec:Y9×Int×Int×Y2×Unit->Option ρ)(kx:Y2×Unit->Option ρ)(kr:Unit->Option ρ):Y9×Int×Int×Y2×Unit->Option ρ:=
 λ(d,e,b,c,_)=>
 (bif decide ((b:Int)<e)then
 (ix d b).bind λa=>
 (d0k n ((Val.mk a.kind a.n a.s a.l),c,())).bind λ(f,_)=>rec (d,e,wI (b+1),f,())
 else kx (c,()))
theorem w0a{ρ:Type}(n:Nat)(kx:Y2×Unit->Option ρ)(kr:Unit->Option ρ)(l:List Val)(fuel:Nat)(a:List Int)(hl:l.length<=9223372036854775807)(hf:l.length<fuel):
  a0a (λrc=>k0r n rc kx kr) fuel (l,(l.length:Int),0,a,())=a0b (f0d n kr) (λ(a,_)=>kx (a,())) 0 l (a,()):=
 a0c l (λi (a,_)=>(l,(l.length:Int),i,a,())) _ _ _ (λrec i s=>rfl) hl fuel (a,()) hf
def q0k(n:Nat):Y9×Unit->Option (Bt×Unit):=
 λ(a,_)=>
 a0a (λc=>k0r n c (λ(b,_)=>
 (str? b).bind λd=>some (d,())) (λ(_)=>none)) (n) (a,(a.length:Int),0,([]:List Int),())
def q80z:Int×Int×Y20×Unit->Option (Y20×Unit):=
 λ(b,c,a,_)=>
 (bif decide ((b:Int)<0)then
 (q67z (IntKind.wrap .u64 (0 - (IntKind.wrap .u64 (b))),IntKind.wrap .u64 (c),())).bind λ(f,g,_)=>
 (bif decide ((b:Int)<0)then
 (w0l (a.2.1,g,0,())).bind λ(q,r,_)=>
 (w0l (a.1,f,r,())).bind λ(s,x,_)=>some ((s,q,()),())
 else
 (x0f (a.2.1,g,0,())).bind λ(h,i,_)=>
 (x0f (a.1,f,i,())).bind λ(j,t,_)=>some ((j,h,()),()))
 else
 (q67z (IntKind.wrap .u64 (b),IntKind.wrap .u64 (c),())).bind λ(d,e,_)=>
 (bif decide ((b:Int)<0)then
 (w0l (a.2.1,e,0,())).bind λ(k,l,_)=>
 (w0l (a.1,d,l,())).bind λ(m,v,_)=>some ((m,k,()),())
 else
 (x0f (a.2.1,e,0,())).bind λ(n,o,_)=>
 (x0f (a.1,d,o,())).bind λ(p,w,_)=>some ((p,n,()),())))
def q68z:Y20×Unit->Option (Int×Bool×Y20×Unit):=
 λ(a,_)=>some (wI (a.2.1),(a.1:Int)==(IntKind.wrap .u64 (bshr .i64 (wI (a.2.1)) 63)),a,())
def f0g{ρ:Type}(n:Nat)(kr:Unit->Option ρ):Int->Cnt->Y39->(Y39->Option ρ)->Option ρ:=
 λq d (c,f,h,b,g,_) rec=>let j:=((Val.mk b.1.kind b.1.n b.1.s b.1.l),());let e:=((Val.mk h.1.kind h.1.n h.1.s h.1.l),());
 (ix d.r 0).bind λa=>let m:=((Val.mk a.kind a.n a.s a.l),(Val.mk b.1.kind b.1.n b.1.s b.1.l),());
 (bif (a.kind:Int)==0 then rec (c,f,e,j,g,())
 else
 (bif (a.kind:Int)==2 then
 (q80z (a.n,d.n,g,())).bind λ(k,_)=>
 (k0i n m).bind λ(o,_)=>
 (bif (((b.1.kind:Int)==0) || ((seq c zb21)&& (decide ((o:Int)<0)))) || ((seq c zb22)&& (!(decide ((o:Int)<0))))then rec (c,wI (f+d.n),e,((Val.mk a.kind a.n a.s a.l),()),k,())
 else rec (c,wI (f+d.n),e,j,k,()))
 else
 (k0i n m).bind λ(p,_)=>
 (bif (((b.1.kind:Int)==0) || ((seq c zb21)&& (decide ((p:Int)<0)))) || ((seq c zb22)&& (!(decide ((p:Int)<0))))then rec (c,wI (f+d.n),e,((Val.mk a.kind a.n a.s a.l),()),g,())
 else rec (c,wI (f+d.n),e,j,g,()))))
def l0c{ρ:Type}(n:Nat)(rec:Bt×Int×Y3×Int×Int×Y6×Y6×Y20×Unit->Option ρ)(kx:Bt×Int×Y6×Y6×Y20×Unit->Option ρ)(kr:Unit->Option ρ):Bt×Int×Y3×Int×Int×Y6×Y6×Y20×Unit->Option ρ:=
 λ(c,f,g,h,d,m,b,k,_)=>let o:=((Val.mk b.1.kind b.1.n b.1.s b.1.l),());let e:=((Val.mk m.1.kind m.1.n m.1.s m.1.l),());
 (bif decide ((d:Int)<h)then
 (ix g d).bind λj=>
 (ix j.r 0).bind λa=>let q:=((Val.mk a.kind a.n a.s a.l),(Val.mk b.1.kind b.1.n b.1.s b.1.l),());
 (bif (a.kind:Int)==0 then rec (c,f,g,h,wI (d+1),e,o,k,())
 else
 (bif (a.kind:Int)==2 then
 (q80z (a.n,j.n,k,())).bind λ(p,_)=>
 (k0i n q).bind λ(t,_)=>
 (bif (((b.1.kind:Int)==0) || ((seq c zb21)&& (decide ((t:Int)<0)))) || ((seq c zb22)&& (!(decide ((t:Int)<0))))then rec (c,wI (f+j.n),g,h,wI (d+1),e,((Val.mk a.kind a.n a.s a.l),()),p,())
 else rec (c,wI (f+j.n),g,h,wI (d+1),e,o,p,()))
 else
 (k0i n q).bind λ(u,_)=>
 (bif (((b.1.kind:Int)==0) || ((seq c zb21)&& (decide ((u:Int)<0)))) || ((seq c zb22)&& (!(decide ((u:Int)<0))))then rec (c,wI (f+j.n),g,h,wI (d+1),e,((Val.mk a.kind a.n a.s a.l),()),k,())
 else rec (c,wI (f+j.n),g,h,wI (d+1),e,o,k,()))))
 else kx (c,f,e,o,k,()))
theorem y0w{ρ:Type}(n:Nat)(kx:Bt×Int×Y6×Y6×Y20×Unit->Option ρ)(kr:Unit->Option ρ)(l:List Cnt)(fuel:Nat)(d:Bt)(e:Int)(a:Val×Unit)(b:Val×Unit)(c:Int×Int×Unit)(hl:l.length<=9223372036854775807)(hf:l.length<fuel):
  a0a (λrc=>l0c n rc kx kr) fuel (d,e,l,(l.length:Int),0,a,b,c,())=a0b (f0g n kr) (λ(d,e,a,b,c,_)=>kx (d,e,((Val.mk a.1.kind a.1.n a.1.s a.1.l),()),((Val.mk b.1.kind b.1.n b.1.s b.1.l),()),c,())) 0 l (d,e,a,b,c,()):=
 a0c l (λi (d,e,a,b,c,_)=>(d,e,l,(l.length:Int),i,a,b,c,())) _ _ _ (λrec i s=>rfl) hl fuel (d,e,a,b,c,()) hf
def l0j(n:Nat):Bt×Y3×Unit->Option Y6:=
 λ(f,d,_)=>let c:=((Val.mk 0 0 zb0 ([]:List Val)),());
 a0a (λh=>l0c n h (λ(e,i,m,a,g,_)=>
 (bif seq e zb14 then some ((Val.mk 2 i zb0 ([]:List Val)),())
 else
 (bif seq e zb24 then
 (q68z (g,())).bind λ(j,k,o,_)=>
 (bif k then some ((Val.mk 2 j zb0 ([]:List Val)),())
 else some c)
 else
 (i0j n ((Val.mk a.1.kind a.1.n a.1.s a.1.l),())).bind λ(b,_)=>some ((Val.mk b.kind b.n b.s b.l),())))) (λ(_)=>none)) (n) (f,0,d,(d.length:Int),0,c,c,(0,0,()),())
def a0n{ρ:Type}(n:Nat)(rec:Int×Int×Y3×Unit->Option ρ)(kx:Y3×Unit->Option ρ)(kr:Unit->Option ρ):Int×Int×Y3×Unit->Option ρ:=
 λ(c,a,b,_)=>
 (bif decide ((a:Int)<c)then
 (ix b a).bind λ_=>
 ((b)[(a:Int).toNat]?).bind λd=>rec (c,wI (a+1),(b).set ((a:Int).toNat) (Cnt.mk d.r 1),())
 else kx (b,()))
def d0n{ρ:Type}(n:Nat)(kr:Unit->Option ρ):Int->Ev.Item->(Y3×Y4×Y2×Y2×Unit)->((Y3×Y4×Y2×Y2×Unit)->Option ρ)->Option ρ:=
 λa f (e,d,b,c,_) rec=>
 (bif seq f.agg zb0 then
 ck (room (b++([a]:List Int)).length 8) (rec (e,d,b++([a]:List Int),c,()))
 else
 ck (room (c++([a]:List Int)).length 8) (rec (e,d,b,c++([a]:List Int),())))
def h0i{ρ:Type}(n:Nat)(rec:Y3×Y31×Int×Int×Y4×Y2×Y2×Unit->Option ρ)(kx:Y3×Y4×Y2×Y2×Unit->Option ρ)(kr:Unit->Option ρ):Y3×Y31×Int×Int×Y4×Y2×Y2×Unit->Option ρ:=
 λ(e,f,g,a,b,c,d,_)=>
 (bif decide ((a:Int)<g)then
 (ix f a).bind λm=>d0n n kr a m (e,b,c,d,()) (λ(h,j,k,l,_)=>rec (h,f,g,wI (a+1),j,k,l,()))
 else kx (e,b,c,d,()))
def d0u{ρ:Type}(n:Nat)(kr:Unit->Option ρ):Int->Cnt->(Y3×Y2×Y4×Y2×Y15×Y37×Unit)->((Y3×Y2×Y4×Y2×Y15×Y37×Unit)->Option ρ)->Option ρ:=
 λj c (h,e,f,g,d,a,_) rec=>
 (b2n n (c.r,e,())).bind λ(i,_)=>
 (q0k n (i,())).bind λ(b,_)=>
 (bif ((d0x .str .cnt a (a0q .str (.lst .cnt) a b)).isEmpty)then
 ck (room (d++([b]:List Bt)).length 16) (
 (bif room (d0x .str .cnt a (a0q .str (.lst .cnt) a b)++([c]:List Cnt)).length 32&&Nat.ble (a0q .str (.lst .cnt) a b) a.length then
 (bif Nat.beq (a0q .str (.lst .cnt) a b) (a0q .str (.lst .cnt) a b)then rec (h,e,f,g,d++([b]:List Bt),b0d .str (.lst .cnt) a b (d0x .str .cnt a (a0q .str (.lst .cnt) a b)++([c]:List Cnt)),())
 else none)
 else none))
 else
 (bif room (d0x .str .cnt a (a0q .str (.lst .cnt) a b)++([c]:List Cnt)).length 32&&Nat.ble (a0q .str (.lst .cnt) a b) a.length then
 (bif Nat.beq (a0q .str (.lst .cnt) a b) (a0q .str (.lst .cnt) a b)then rec (h,e,f,g,d,b0d .str (.lst .cnt) a b (d0x .str .cnt a (a0q .str (.lst .cnt) a b)++([c]:List Cnt)),())
 else none)
 else none))
def h0z{ρ:Type}(n:Nat)(rec:Y3×Y2×Y3×Int×Int×Y4×Y2×Y15×Y37×Unit->Option ρ)(kx:Y3×Y2×Y4×Y2×Y15×Y37×Unit->Option ρ)(kr:Unit->Option ρ):Y3×Y2×Y3×Int×Int×Y4×Y2×Y15×Y37×Unit->Option ρ:=
 λ(f,g,h,j,a,b,c,d,e,_)=>
 (bif decide ((a:Int)<j)then
 (ix h a).bind λr=>d0u n kr a r (f,g,b,c,d,e,()) (λ(k,l,m,o,p,q,_)=>rec (k,l,h,j,wI (a+1),m,o,p,q,()))
 else kx (f,g,b,c,d,e,()))
def d0m{ρ:Type}(n:Nat)(kr:Unit->Option ρ):Int->Int->Y38->(Y38->Option ρ)->Option ρ:=
 λt a (g,h,i,j,d,k,m,o,e,f,c,_) rec=>
 (ix d 0).bind λp=>
 (ix p.r a).bind λb=>
 (ix c a).bind λ_=>
 ((c)[(a:Int).toNat]?).bind λq=>rec (g,h,i,j,d,k,m,o,e,f,(c).set ((a:Int).toNat) (Val.mk b.kind b.n b.s b.l),())
def h0l{ρ:Type}(n:Nat)(rec:Y2×Y2×Y19×Bt×Y3×Y15×Int×Int×Y2×Int×Int×Y4×Y3×Y9×Unit->Option ρ)(kx:Y2×Y2×Y19×Bt×Y15×Int×Int×Y4×Y3×Y9×Unit->Option ρ)(kr:Unit->Option ρ):Y2×Y2×Y19×Bt×Y3×Y15×Int×Int×Y2×Int×Int×Y4×Y3×Y9×Unit->Option ρ:=
 λ(e,f,g,h,p,j,k,l,m,o,a,b,c,d,_)=>
 (bif decide ((a:Int)<o)then
 (ix m a).bind λab=>d0m n kr a ab (e,f,g,h,p,j,k,l,b,c,d,()) (λ(q,r,v,w,x,y,z,w7,s,t,u,_)=>rec (q,r,v,w,x,y,z,w7,m,o,wI (a+1),s,t,u,()))
 else kx (e,f,g,h,j,k,l,b,c,d,()))
def b0t{ρ:Type}(n:Nat)(kr:Unit->Option ρ):Int->Cnt->Y32->(Y32->Option ρ)->Option ρ:=
 λw e (o,p,q,t,d,u,v,i,j,k,m,f,g,b,h,_) rec=>
 (
 (
 (
 (ix e.r d).bind λa=>let c:=(Cnt.mk ([(Val.mk a.kind a.n a.s a.l)]:List Val) e.n);
 (
 (
 ck (room (b++([c]:List Cnt)).length 32) (rec (o,p,q,t,d,u,v,i,j,k,m,f,g,b++([c]:List Cnt),h,())))))))
def f0z{ρ:Type}(n:Nat)(rec:Y2×Y2×Y19×Bt×Int×Y15×Int×Int×Y2×Int×Int×Y3×Int×Int×Y4×Y3×Y3×Y9×Unit->Option ρ)(kx:Y2×Y2×Y19×Bt×Int×Y15×Int×Int×Y2×Int×Int×Y4×Y3×Y3×Y9×Unit->Option ρ)(kr:Unit->Option ρ):Y2×Y2×Y19×Bt×Int×Y15×Int×Int×Y2×Int×Int×Y3×Int×Int×Y4×Y3×Y3×Y9×Unit->Option ρ:=
 λ(m,o,p,q,r,s,t,f,g,h,j,k,l,a,b,c,d,e,_)=>
 (bif decide ((a:Int)<l)then
 (ix k a).bind λaj=>b0t n kr a aj (m,o,p,q,r,s,t,f,g,h,j,b,c,d,e,()) (λ(u,v,w2,w3,w4,w5,w6,w7,w8,w9,w,x,y,z,aa,_)=>rec (u,v,w2,w3,w4,w5,w6,w7,w8,w9,w,k,l,wI (a+1),x,y,z,aa,()))
 else kx (m,o,p,q,r,s,t,f,g,h,j,b,c,d,e,()))
def c0f{ρ:Type}(n:Nat)(rec:Y2×Y2×Y19×Bt×Y15×Int×Int×Y2×Int×Int×Y4×Y3×Y9×Unit->Option ρ)(kx:Y2×Y2×Y19×Y15×Int×Int×Y4×Y3×Y9×Unit->Option ρ)(kr:Unit->Option ρ):Y2×Y2×Y19×Bt×Y15×Int×Int×Y2×Int×Int×Y4×Y3×Y9×Unit->Option ρ:=
 λ(m,o,b,e,p,q,r,t,u,f,h,j,k,_)=>
 (bif decide ((f:Int)<u)then
 (ix t f).bind λaj=>
 a0a (λx=>f0z n x (λ(y,z,aa,ab,a,ac,ad,ae,af,ag,ah,g,v,w,d,_)=>
 (ix g.1.items a).bind λai=>
 (l0j n (ai.agg,w,())).bind λ(c,_)=>
 (ix d a).bind λ_=>
 ((d)[(a:Int).toNat]?).bind λak=>rec (y,z,aa,ab,ac,ad,ae,af,ag,wI (ah+1),g,v,(d).set ((a:Int).toNat) (Val.mk c.kind c.n c.s c.l),())) (λ(_)=>none)) (n) (m,o,b,e,aj,p,q,r,t,u,f,(a0k .str (.lst .cnt) ([]:List Cnt) b e),((a0k .str (.lst .cnt) ([]:List Cnt) b e).length:Int),0,h,j,([]:List Cnt),k,())
 else kx (m,o,b,p,q,r,h,j,k,()))
def c0a{ρ:Type}(n:Nat)(rec:Y2×Y2×Y19×Y15×Int×Int×Y4×Y3×Unit->Option ρ)(kx:Y4×Y3×Unit->Option ρ)(kr:Unit->Option ρ):Y2×Y2×Y19×Y15×Int×Int×Y4×Y3×Unit->Option ρ:=
 λ(b,c,d,j,k,e,a,h,_)=>let r:=(Val.mk 0 0 zb0 ([]:List Val));
 (bif decide ((e:Int)<k)then
 (ix j e).bind λf=>
 (cnt? (a.1.items.length:Int)).bind λg=>
 ck (room g 56) (
 (bif decide ((((a0k .str (.lst .cnt) ([]:List Cnt) d f).length:Int):Int) >0)then
 a0a (λy=>h0l n y (λ(am,l,an,ao,ap,aq,ar,u,v,w,_)=>
 a0a (λx=>c0f n x (λ(aa,ab,ac,ad,ae,af,s,m,o,_)=>
 ck (room (m++([(Cnt.mk o 1)]:List Cnt)).length 32) (rec (aa,ab,ac,ad,ae,wI (af+1),s,m++([(Cnt.mk o 1)]:List Cnt),()))) (λ(_)=>none)) (n) (am,l,an,ao,ap,aq,ar,l,(l.length:Int),0,u,v,w,())) (λ(_)=>none)) (n) (b,c,d,f,(a0k .str (.lst .cnt) ([]:List Cnt) d f),j,k,e,b,(b.length:Int),0,a,h,(List.replicate g r),())
 else
 a0a (λz=>c0f n z (λ(ag,ah,ai,aj,ak,al,t,p,q,_)=>
 ck (room (p++([(Cnt.mk q 1)]:List Cnt)).length 32) (rec (ag,ah,ai,aj,ak,wI (al+1),t,p++([(Cnt.mk q 1)]:List Cnt),()))) (λ(_)=>none)) (n) (b,c,d,f,j,k,e,c,(c.length:Int),0,a,h,(List.replicate g r),())))
 else kx (a,h,()))
theorem w0b{ρ:Type}(n:Nat)(kx:Y3×Y4×Y2×Y2×Unit->Option ρ)(kr:Unit->Option ρ)(l:List Ev.Item)(fuel:Nat)(d:List Cnt)(a:Query×Unit)(b:List Int)(c:List Int)(hl:l.length<=9223372036854775807)(hf:l.length<fuel):
  a0a (λrc=>h0i n rc kx kr) fuel (d,l,(l.length:Int),0,a,b,c,())=a0b (d0n n kr) (λ(d,a,b,c,_)=>kx (d,a,b,c,())) 0 l (d,a,b,c,()):=
 a0c l (λi (d,a,b,c,_)=>(d,l,(l.length:Int),i,a,b,c,())) _ _ _ (λrec i s=>rfl) hl fuel (d,a,b,c,()) hf
theorem x0w{ρ:Type}(n:Nat)(kx:Y3×Y2×Y4×Y2×Y15×Y37×Unit->Option ρ)(kr:Unit->Option ρ)(l:List Cnt)(fuel:Nat)(e:List Cnt)(f:List Int)(a:Query×Unit)(b:List Int)(c:List Bt)(d:List (Bt×List Cnt))(hl:l.length<=9223372036854775807)(hf:l.length<fuel):
  a0a (λrc=>h0z n rc kx kr) fuel (e,f,l,(l.length:Int),0,a,b,c,d,())=a0b (d0u n kr) (λ(e,f,a,b,c,d,_)=>kx (e,f,a,b,c,d,())) 0 l (e,f,a,b,c,d,()):=
 a0c l (λi (e,f,a,b,c,d,_)=>(e,f,l,(l.length:Int),i,a,b,c,d,())) _ _ _ (λrec i s=>rfl) hl fuel (e,f,a,b,c,d,()) hf
theorem v0r{ρ:Type}(n:Nat)(kx:Y2×Y2×Y19×Bt×Y15×Int×Int×Y4×Y3×Y9×Unit->Option ρ)(kr:Unit->Option ρ)(l:List Int)(fuel:Nat)(d:List Int)(e:List Int)(f:List (Bt×Y3))(g:Bt)(m:List Cnt)(h:List Bt)(j:Int)(k:Int)(a:Query×Unit)(b:List Cnt)(c:List Val)(hl:l.length<=9223372036854775807)(hf:l.length<fuel):
  a0a (λrc=>h0l n rc kx kr) fuel (d,e,f,g,m,h,j,k,l,(l.length:Int),0,a,b,c,())=a0b (d0m n kr) (λ(d,e,f,g,m,h,j,k,a,b,c,_)=>kx (d,e,f,g,h,j,k,a,b,c,())) 0 l (d,e,f,g,m,h,j,k,a,b,c,()):=
 a0c l (λi (d,e,f,g,m,h,j,k,a,b,c,_)=>(d,e,f,g,m,h,j,k,l,(l.length:Int),i,a,b,c,())) _ _ _ (λrec i s=>rfl) hl fuel (d,e,f,g,m,h,j,k,a,b,c,()) hf
theorem t0m{ρ:Type}(n:Nat)(kx:Y2×Y2×Y19×Bt×Int×Y15×Int×Int×Y2×Int×Int×Y4×Y3×Y3×Y9×Unit->Option ρ)(kr:Unit->Option ρ)(l:List Cnt)(fuel:Nat)(j:List Int)(k:List Int)(m:List (Bt×Y3))(o:Bt)(p:Int)(q:List Bt)(r:Int)(e:Int)(f:List Int)(g:Int)(h:Int)(a:Query×Unit)(b:List Cnt)(c:List Cnt)(d:List Val)(hl:l.length<=9223372036854775807)(hf:l.length<fuel):
  a0a (λrc=>f0z n rc kx kr) fuel (j,k,m,o,p,q,r,e,f,g,h,l,(l.length:Int),0,a,b,c,d,())=a0b (b0t n kr) (λ(j,k,m,o,p,q,r,e,f,g,h,a,b,c,d,_)=>kx (j,k,m,o,p,q,r,e,f,g,h,a,b,c,d,())) 0 l (j,k,m,o,p,q,r,e,f,g,h,a,b,c,d,()):=
 a0c l (λi (j,k,m,o,p,q,r,e,f,g,h,a,b,c,d,_)=>(j,k,m,o,p,q,r,e,f,g,h,l,(l.length:Int),i,a,b,c,d,())) _ _ _ (λrec i s=>rfl) hl fuel (j,k,m,o,p,q,r,e,f,g,h,a,b,c,d,()) hf
def h0u(n:Nat):Query×Y3×Unit->Option Y22:=
 λ(a,g,_)=>
 (q89z n (a,())).bind λ(y3,_)=>
 (bif !y3 then
 (q71z n (g,())).bind λ(d,_)=>
 (bif a.dist then
 a0a (λw=>a0n n w (λ(v,_)=>some (v,())) (λ(_)=>none)) (n) ((d.length:Int),0,d,())
 else some (d,()))
 else
 a0a (λac=>h0i n ac (λ(e,s,t,u,_)=>
 a0a (λab=>h0z n ab (λ(ad,f,h,i,j,k,_)=>
 (bif (((f.length:Int):Int)==0)&& (((ad.length:Int):Int)==0)then
 a0a (λy=>c0a n y (λ(l,m,_)=>
 (q71z n (m,())).bind λ(b,_)=>
 (bif l.1.dist then
 a0a (λx=>a0n n x (λ(o,_)=>some (o,())) (λ(_)=>none)) (n) ((b.length:Int),0,b,())
 else some (b,()))) (λ(_)=>none)) (n) (f,i,b0d .str (.lst .cnt) k zb0 ([]:List Cnt),([zb0]:List Bt),(([zb0]:List Bt).length:Int),0,h,([]:List Cnt),())
 else
 a0a (λaa=>c0a n aa (λ(p,q,_)=>
 (q71z n (q,())).bind λ(c,_)=>
 (bif p.1.dist then
 a0a (λz=>a0n n z (λ(r,_)=>some (r,())) (λ(_)=>none)) (n) ((c.length:Int),0,c,())
 else some (c,()))) (λ(_)=>none)) (n) (f,i,k,j,(j.length:Int),0,h,([]:List Cnt),()))) (λ(_)=>none)) (n) (e,t,e,(e.length:Int),0,s,u,([]:List Bt),([]:List (Bt×Y3)),())) (λ(_)=>none)) (n) (g,a.items,(a.items.length:Int),0,(a,()),([]:List Int),([]:List Int),()))
def h0t(n:Nat):Query×Graph×Unit->Option (Y3×Int×Unit):=
 λ(a,b,_)=>
 (q96z n (a,())).bind λ(c,_)=>
 (bif (c:Int) !=0 then some (([]:List Cnt),c,())
 else
 (q93z n (b,())).bind λ(d,_)=>
 (bif (d:Int) !=0 then some (([]:List Cnt),d,())
 else
 (i0r n (a,b,())).bind λ(f,_)=>
 (q24z n (f,(0,()),(()),([]:List Cnt),(a,()),(()),())).bind λ(l,g,m,h,e,k,_)=>
 (bif decide ((g.1:Int) >2000)then some (([]:List Cnt),10,())
 else
 (a1o n (h,())).bind λ(i,_)=>
 (h0u n (e.1,i,())).bind λ(j,_)=>some (j,0,()))))
def w0j(n:Nat):Bt×Graph×Unit->Option (Y3×Int×Int×Unit):=
 λ(b,c,_)=>
 (q97z n (b,())).bind λ(d,e,a,_)=>
 (bif (a:Int) !=0 then some (([]:List Cnt),e,a,())
 else
 (h0t n (d,c,())).bind λ(f,g,_)=>some (f,0,g,()))
def q66z:Int×Unit->Option Y6:=
 λ(a,_)=>some ((Val.mk 2 a zb0 ([]:List Val)),())
def q78z:Y2×Y2×Unit->Option Y5:=
 λ(a,b,_)=>
 (cmpN (a,b,())).bind λ(c,_)=>some (c,())
def n0v{ρ:Type}(bA:Val×Val×Unit->Option Y5)(n:Nat)(rec:Int×Y6×Y6×Unit->Option ρ)(kx:Y6×Y6×Unit->Option ρ)(kr:Int×Unit->Option ρ):Int×Y6×Y6×Unit->Option ρ:=
 λ(c,a,b,_)=>
 (bif (decide ((c:Int)<(a.1.l.length:Int)))&& (decide ((c:Int)<(b.1.l.length:Int)))then
 (ix a.1.l c).bind λe=>
 (ix b.1.l c).bind λd=>
 (bA ((Val.mk e.kind e.n e.s e.l),(Val.mk d.kind d.n d.s d.l),())).bind λ(f,_)=>
 (bif (f:Int) !=0 then kr (f,())
 else rec (wI (c+1),((Val.mk a.1.kind a.1.n a.1.s a.1.l),()),((Val.mk b.1.kind b.1.n b.1.s b.1.l),()),()))
 else kx (((Val.mk a.1.kind a.1.n a.1.s a.1.l),()),((Val.mk b.1.kind b.1.n b.1.s b.1.l),()),()))
def p1l(bA:Val×Val×Unit->Option Y5)(n:Nat):Val×Val×Unit->Option Y5:=
 λ(a,b,_)=>
 (bif decide ((a.kind:Int)<b.kind)then some ((-1),())
 else
 (bif decide ((a.kind:Int) >b.kind)then some (1,())
 else
 (bif decide ((a.n:Int)<b.n)then some ((-1),())
 else
 (bif decide ((a.n:Int) >b.n)then some (1,())
 else
 (bif !(seq a.s b.s)then
 (q78z (d0d a.s,d0d b.s,())).bind λ(g,_)=>some (g,())
 else
 a0a (λe=>n0v bA n e (λ(c,d,_)=>
 (bif decide (((c.1.l.length:Int):Int)<(d.1.l.length:Int))then some ((-1),())
 else
 (bif decide (((c.1.l.length:Int):Int) >(d.1.l.length:Int))then some (1,())
 else some (0,())))) (λ(f,_)=>some (f,()))) (n) (0,((Val.mk a.kind a.n a.s a.l),()),((Val.mk b.kind b.n b.s b.l),()),()))))))
def q38z:Nat->Val×Val×Unit->Option Y5
 | 0,_=>none
 |n+1,x=>p1l (q38z n) n x
def q30z(n:Nat):Y9×Y9×Unit->Option Y5:=
 λ(a,b,_)=>
 (q38z n ((Val.mk 4 0 zb0 a),(Val.mk 4 0 zb0 b),())).bind λ(c,_)=>some (c,())
def q32z(n:Nat):Cnt×Cnt×Unit->Option Y11:=
 λ(a,b,_)=>
 (bif (a.n:Int)==b.n then
 (q30z n (a.r,b.r,())).bind λ(c,_)=>some ((c:Int)==0,())
 else some (false,()))
def z1r{ρ:Type}(n:Nat)(kr:Bool×Unit->Option ρ):Int->Cnt->Y22->(Y22->Option ρ)->Option ρ:=
 λd b (a,_) rec=>
 (ix a d).bind λc=>
 (q32z n ((Cnt.mk b.r b.n),(Cnt.mk c.r c.n),())).bind λ(e,_)=>
 (bif !e then kr (false,())
 else rec (a,()))
def d2w{ρ:Type}(n:Nat)(rec:Y3×Y3×Int×Int×Unit->Option ρ)(kx:Unit->Option ρ)(kr:Bool×Unit->Option ρ):Y3×Y3×Int×Int×Unit->Option ρ:=
 λ(d,b,c,a,_)=>
 (bif decide ((a:Int)<c)then
 (ix b a).bind λf=>z1r n kr a f (d,()) (λ(e,_)=>rec (e,b,c,wI (a+1),()))
 else kx (()))
def q0z(n:Nat):Y3×Y3×Unit->Option Y11:=
 λ(a,b,_)=>
 (bif ((a.length:Int):Int) !=(b.length:Int)then some (false,())
 else
 a0a (λc=>d2w n c (λ(_)=>some (true,())) (λ(d,_)=>some (d,()))) (n) (b,a,(a.length:Int),0,()))
def q39z(n:Nat):Y3×Y3×Unit->Option Y11:=
 λ(a,b,_)=>
 (q0z n (a,b,())).bind λ(c,_)=>some (c,())
def q53z(n:Nat):Unit->Option Y11:=
 λ(_)=>
 (q54z (())).bind λ(b,_)=>
 (w0j n (zb30,b,())).bind λ(c,d,e,_)=>
 (bif ((e:Int)==0)&& ((d:Int)==0)then
 (q66z (3,())).bind λ(a,_)=>
 (q39z n (c,([(Cnt.mk ([(Val.mk a.kind a.n a.s a.l)]:List Val) 1)]:List Cnt),())).bind λ(f,_)=>some (f,())
 else some (false,()))
def g0l{ρ:Type}(n:Nat)(kr:Int×Unit->Option ρ):Int->Val->Y41->(Y41->Option ρ)->Option ρ:=
 λi a (f,g,h,d,e,b,_) rec=>
 (j0k n ((Val.mk a.kind a.n a.s a.l),())).bind λ(c,_)=>
 (bif (c:Int) !=0 then kr (c,())
 else rec (f,g,h,d,e,((Cnt.mk b.1.r b.1.n),()),()))
def g0a{ρ:Type}(n:Nat)(rec:Y3×Int×Y3×Int×Int×Y9×Int×Int×(Cnt×Unit)×Unit->Option ρ)(kx:Y3×Int×Y3×Int×Int×(Cnt×Unit)×Unit->Option ρ)(kr:Int×Unit->Option ρ):Y3×Int×Y3×Int×Int×Y9×Int×Int×(Cnt×Unit)×Unit->Option ρ:=
 λ(h,j,k,d,e,f,g,c,a,_)=>
 (bif decide ((c:Int)<g)then
 (ix f c).bind λb=>
 (j0k n ((Val.mk b.kind b.n b.s b.l),())).bind λ(m,_)=>
 (bif (m:Int) !=0 then kr (m,())
 else rec (h,j,k,d,e,f,g,wI (c+1),((Cnt.mk a.1.r a.1.n),()),()))
 else kx (h,j,k,d,e,((Cnt.mk a.1.r a.1.n),()),()))
def i0i{ρ:Type}(n:Nat)(rec:Y3×Y3×Int×Int×Unit->Option ρ)(kx:Unit->Option ρ)(kr:Int×Unit->Option ρ):Y3×Y3×Int×Int×Unit->Option ρ:=
 λ(k,g,h,c,_)=>
 (bif decide ((c:Int)<h)then
 (ix g c).bind λa=>
 (bif decide (((a.r.length:Int):Int) >30)then kr (2,())
 else
 a0a (λj=>g0a n j (λ(e,f,l,m,o,b,_)=>let d:Option ρ:=(bif (decide ((b.1.n:Int) >1099511627776)) || (decide ((b.1.n:Int)<(-1099511627776)))then kr (9,())
 else rec (e,l,m,wI (o+1),()));
 (bif (b.1.n:Int)==0 then kr (6,())
 else
 (bif decide ((f:Int) >0)then
 (ix e (wI (f - 1))).bind λq=>
 (q90z n (q.r,b.1.r,())).bind λ(s,_)=>
 (bif decide ((s:Int) >=0)then kr (6,())
 else
 d)
 else
 d))) (λ(p,_)=>kr (p,()))) (n) (k,c,g,h,c,a.r,(a.r.length:Int),0,((Cnt.mk a.r a.n),()),()))
 else kx (()))
theorem t0j{ρ:Type}(n:Nat)(kx:Y3×Int×Y3×Int×Int×(Cnt×Unit)×Unit->Option ρ)(kr:Int×Unit->Option ρ)(l:List Val)(fuel:Nat)(d:List Cnt)(e:Int)(f:List Cnt)(b:Int)(c:Int)(a:Cnt×Unit)(hl:l.length<=9223372036854775807)(hf:l.length<fuel):
  a0a (λrc=>g0a n rc kx kr) fuel (d,e,f,b,c,l,(l.length:Int),0,a,())=a0b (g0l n kr) (λ(d,e,f,b,c,a,_)=>kx (d,e,f,b,c,((Cnt.mk a.1.r a.1.n),()),())) 0 l (d,e,f,b,c,a,()):=
 a0c l (λi (d,e,f,b,c,a,_)=>(d,e,f,b,c,l,(l.length:Int),i,a,())) _ _ _ (λrec i s=>rfl) hl fuel (d,e,f,b,c,a,()) hf
def g0v(n:Nat):Y3×Unit->Option Y5:=
 λ(a,_)=>
 (bif decide (((a.length:Int):Int) >2000)then some (2,())
 else
 a0a (λb=>i0i n b (λ(_)=>some (0,())) (λ(c,_)=>some (c,()))) (n) (a,a,(a.length:Int),0,()))
def m0y{ρ:Type}(n:Nat)(kr:Unit->Option ρ):Int->Cnt->(Y3×Y22×Unit)->((Y3×Y22×Unit)->Option ρ)->Option ρ:=
 λe c (a,b,_) rec=>
 (bif decide ((c.n:Int) >0)then
 (q91z n (c.r,())).bind λ(d,_)=>
 ck (room (a++([(Cnt.mk d 1)]:List Cnt)).length 32) (rec (a++([(Cnt.mk d 1)]:List Cnt),(b.1,()),()))
 else rec (a,(b.1,()),()))
def h1c{ρ:Type}(n:Nat)(rec:Y3×Int×Int×Y3×Y22×Unit->Option ρ)(kx:Y3×Y22×Unit->Option ρ)(kr:Unit->Option ρ):Y3×Int×Int×Y3×Y22×Unit->Option ρ:=
 λ(d,e,b,a,c,_)=>
 (bif decide ((b:Int)<e)then
 (ix d b).bind λf=>
 (bif decide ((f.n:Int) >0)then
 (q91z n (f.r,())).bind λ(g,_)=>
 ck (room (a++([(Cnt.mk g 1)]:List Cnt)).length 32) (rec (d,e,wI (b+1),a++([(Cnt.mk g 1)]:List Cnt),(c.1,()),()))
 else rec (d,e,wI (b+1),a,(c.1,()),()))
 else kx (a,(c.1,()),()))
theorem p1z{ρ:Type}(n:Nat)(kx:Y3×Y22×Unit->Option ρ)(kr:Unit->Option ρ)(l:List Cnt)(fuel:Nat)(a:List Cnt)(b:Y3×Unit)(hl:l.length<=9223372036854775807)(hf:l.length<fuel):
  a0a (λrc=>h1c n rc kx kr) fuel (l,(l.length:Int),0,a,b,())=a0b (m0y n kr) (λ(a,b,_)=>kx (a,(b.1,()),())) 0 l (a,b,()):=
 a0c l (λi (a,b,_)=>(l,(l.length:Int),i,a,b,())) _ _ _ (λrec i s=>rfl) hl fuel (a,b,()) hf
def q70z(n:Nat):Y22×Unit->Option (Y3×Y22×Unit):=
 λ(a,_)=>
 a0a (λd=>h1c n d (λ(c,b,_)=>some (c,(b.1,()),())) (λ(_)=>none)) (n) (a.1,(a.1.length:Int),0,([]:List Cnt),(a.1,()),())
def e1q{ρ:Type}(n:Nat)(rec:(Y3×Y3)×Int×Y22×Unit->Option ρ)(kx:Y22×Unit->Option ρ)(kr:Y3×Int×Y22×Unit->Option ρ):(Y3×Y3)×Int×Y22×Unit->Option ρ:=
 λ(a,c,b,_)=>
 (bif decide ((c:Int)<2)then
 (ix ([a.1,a.2]:List Y3) c).bind λe=>
 (g0v n (e,())).bind λ(d,_)=>
 (bif (d:Int) !=0 then kr (([]:List Cnt),d,(b.1,()),())
 else rec ((a.1,a.2),wI (c+1),(b.1,()),()))
 else kx ((b.1,()),()))
def q28z(n:Nat):Y3×Y3×Y22×Unit->Option (Y3×Int×Y22×Unit):=
 λ(d,e,g,_)=>
 a0a (λi=>e1q n i (λ(h,_)=>
 (q70z n ((h.1,()),())).bind λ(b,a,_)=>
 (g0v n (b,())).bind λ(c,_)=>
 (bif (c:Int) !=0 then some (([]:List Cnt),c,(a.1,()),())
 else some (b,0,(a.1,()),()))) (λ(j,k,f,_)=>some (j,k,(f.1,()),()))) (n) ((d,e),0,(g.1,()),())
def q83z(n:Nat):Y3×Unit->Option (Y3×Int×Unit):=
 λ(a,_)=>
 (q28z n (a,([]:List Cnt),(a,()),())).bind λ(b,c,d,_)=>some (b,c,())
def q31z(n:Nat):Query×Graph×Unit->Option Y11:=
 λ(a,b,_)=>
 (c0n n (a,b,())).bind λ(o,p,_)=>
 (q53z n (())).bind λ(q,_)=>
 (bif (!q) || ((p:Int) !=0)then
 (q53z n (())).bind λ(r,_)=>some (r,())
 else
 (q66z (1,())).bind λ(d,_)=>
 (h0t n ((Query.mk a.dots a.arrows a.wher ([(Ev.Item.mk (⟨#[122]⟩:Bt) zb14 (Term.mk 1 (Val.mk d.kind d.n d.s d.l) zb0 ([]:List Term)))]:List Ev.Item) a.dist),b,())).bind λ(t,u,_)=>
 (bif (u:Int) !=0 then some (false,())
 else
 (q66z ((o.length:Int),())).bind λ(c,_)=>
 (q39z n (t,([(Cnt.mk ([(Val.mk c.kind c.n c.s c.l)]:List Val) 1)]:List Cnt),())).bind λ(e,_)=>
 (bif !e then some (false,())
 else
 (h0t n ((Query.mk a.dots a.arrows a.wher a.items true),b,())).bind λ(f,g,_)=>
 (h0t n ((Query.mk a.dots a.arrows a.wher a.items false),b,())).bind λ(h,i,_)=>
 (q83z n (h,())).bind λ(j,k,_)=>
 (bif (((g:Int)==0)&& ((i:Int)==0))&& ((k:Int)==0)then
 (q39z n (f,j,())).bind λ(m,_)=>some (m,())
 else some (false,())))))
end Pure

import Derived.Test.YtcloicgnanjbcaaGreatDoorEvLib
import Derived.Test.YtcloicgnanjbcaaGreatDoorPRange
import Derived.Test.YtcloicgnanjbcaaGreatDoorEvIns
import Derived.Test.YtcloicgnanjbcaaGreatDoorEvRise2
import Derived.Test.YtcloicgnanjbcaaGreatDoorEvRng
import Derived.Test.YtcloicgnanjbcaaGreatDoorEvSortL
import Derived.Test.YtcloicgnanjbcaaGreatDoorPNext
import Derived.Test.YtcloicgnanjbcaaGreatDoorEvBuild2
import Derived.Test.YtcloicgnanjbcaaGreatDoorEvBuild3
noncomputable section
namespace Pure
open Esp Ev Go
set_option linter.unusedSimpArgs false
set_option linter.unusedVariables false
def y0x{ρ:Type}(n:Nat)(rec:ByteArray×Int×Int×Unit→Option ρ)(kx:Unit→Option ρ)(kr:Bool×Unit→Option ρ):ByteArray×Int×Int×Unit→Option ρ:=
 fun(v2,v3,v4,_)=>
 (bif decide ((v4:Int)<v3)then
 (sat v2 v4).bind fun c5=>
 (bif (!((((decide ((c5:Int) ≥97))&& (decide ((c5:Int)≤122))) || ((decide ((c5:Int) ≥65))&& (decide ((c5:Int)≤90)))) || ((c5:Int)==95)))&& ((((v4:Int)==0) || (decide ((c5:Int)<48))) || (decide ((c5:Int) >57)))then kr (false,())
 else rec (v2,v3,IntKind.wrap .i64 (v4+1),()))
 else kx (()))
def r1h{ρ:Type}(n:Nat)(kr:Bool×Unit→Option ρ):Int→Int→Unit→(Unit→Option ρ)→Option ρ:=
 fun v4 c5 (_) rec=>
 (bif (!((((decide ((c5:Int) ≥97))&& (decide ((c5:Int)≤122))) || ((decide ((c5:Int) ≥65))&& (decide ((c5:Int)≤90)))) || ((c5:Int)==95)))&& ((((v4:Int)==0) || (decide ((c5:Int)<48))) || (decide ((c5:Int) >57)))then kr (false,())
 else rec (()))
theorem p0k{ρ:Type}(n:Nat)(kx:Unit→Option ρ)(kr:Bool×Unit→Option ρ)(l:ByteArray)(fuel:Nat)(hl:l.size≤4611686018427387904)(hf:l.size<fuel):
  a0k (fun rc=>y0x n rc kx kr) fuel (l,(l.size:Int),0,())=a0i (r1h n kr) (fun(_)=>kx (())) 0 (bi l.data.toList) (()):=
 a1t l (fun i (_)=>(l,(l.size:Int),i,())) _ _ _ (fun rec i s=>rfl) hl fuel (()) hf
def q60z(n:Nat):ByteArray×Unit→Option (Bool×Unit):=
 fun(a1,_)=>
 (bif (seq a1 (⟨#[]⟩:ByteArray)) || (decide (((a1.size:Int):Int) >12))then some (false,())
 else
 a0k (fun rc7=>y0x n rc7 (fun(_)=>some (true,())) (fun(v6,_)=>some (v6,()))) (n) (a1,(a1.size:Int),0,()))
def j1x{ρ:Type}(n:Nat)(rec:(List ByteArray)×ByteArray×Int×Int×Unit→Option ρ)(kx:Unit→Option ρ)(kr:Int×Unit→Option ρ):(List ByteArray)×ByteArray×Int×Int×Unit→Option ρ:=
 fun(v3,v4,v5,v6,_)=>
 (bif decide ((v6:Int)<v5)then
 (ix v3 v6).bind fun x7=>
 (bif seq v4 x7 then kr (v6,())
 else rec (v3,v4,v5,IntKind.wrap .i64 (v6+1),()))
 else kx (()))
def b2b{ρ:Type}(n:Nat)(kr:Int×Unit→Option ρ):Int→ByteArray→(ByteArray×Unit)→((ByteArray×Unit)→Option ρ)→Option ρ:=
 fun v6 x7 (v4,_) rec=>
 (bif seq v4 x7 then kr (v6,())
 else rec (v4,()))
theorem v0w{ρ:Type}(n:Nat)(kx:Unit→Option ρ)(kr:Int×Unit→Option ρ)(l:List ByteArray)(fuel:Nat)(v4:ByteArray)(hl:l.length≤9223372036854775807)(hf:l.length<fuel):
  a0k (fun rc=>j1x n rc kx kr) fuel (l,v4,(l.length:Int),0,())=a0i (b2b n kr) (fun(v4,_)=>kx (())) 0 l (v4,()):=
 a0h l (fun i (v4,_)=>(l,v4,(l.length:Int),i,())) _ _ _ (fun rec i s=>rfl) hl fuel (v4,()) hf
def q9z(n:Nat):(List ByteArray)×ByteArray×Unit→Option (Int×Unit):=
 fun(a1,a2,_)=>
 a0k (fun rc9=>j1x n rc9 (fun(_)=>some ((-1),())) (fun(v8,_)=>some (v8,()))) (n) (a1,a2,(a1.length:Int),0,())
def q7z(n:Nat):(List ByteArray)×ByteArray×Unit→Option (Bool×Unit):=
 fun(a1,a2,_)=>
 (q9z n (a1,a2,())).bind fun(y3,_)=>some (decide ((y3:Int) ≥0),())
def q40z(n:Nat):ByteArray×Unit→Option (Bool×Unit):=
 fun(a1,_)=>
 (q7z n (([(⟨#[109,97,116,99,104]⟩:ByteArray),(⟨#[119,104,101,114,101]⟩:ByteArray),(⟨#[114,101,116,117,114,110]⟩:ByteArray),(⟨#[100,105,115,116,105,110,99,116]⟩:ByteArray),(⟨#[97,115]⟩:ByteArray),(⟨#[97,110,100]⟩:ByteArray),(⟨#[111,114]⟩:ByteArray),(⟨#[110,111,116]⟩:ByteArray),(⟨#[105,110]⟩:ByteArray),(⟨#[105,115]⟩:ByteArray),(⟨#[110,117,108,108]⟩:ByteArray),(⟨#[116,114,117,101]⟩:ByteArray),(⟨#[102,97,108,115,101]⟩:ByteArray),(⟨#[99,111,117,110,116]⟩:ByteArray),(⟨#[115,117,109]⟩:ByteArray),(⟨#[109,105,110]⟩:ByteArray),(⟨#[109,97,120]⟩:ByteArray),(⟨#[115,105,122,101]⟩:ByteArray),(⟨#[104,101,97,100]⟩:ByteArray),(⟨#[99,111,97,108,101,115,99,101]⟩:ByteArray),(⟨#[105,100]⟩:ByteArray),(⟨#[116,121,112,101]⟩:ByteArray)]:List ByteArray),a1,())).bind fun(y2,_)=>some (y2,())
def b0q(n:Nat):ByteArray×Unit→Option (Bool×Unit):=
 fun(a1,_)=>
 (q60z n (a1,())).bind fun(y2,_)=>
 (bif y2 then
 (q40z n (a1,())).bind fun(y3,_)=>some (!y3,())
 else some (false,()))
def y0p{ρ:Type}(n:Nat)(rec:(List Ev.Dot)×Int×Int×(Ev.Query×Unit)×(List (ByteArray×Bool))×Unit→Option ρ)(kx:(Ev.Query×Unit)×(List (ByteArray×Bool))×Unit→Option ρ)(kr:Unit→Option ρ):(List Ev.Dot)×Int×Int×(Ev.Query×Unit)×(List (ByteArray×Bool))×Unit→Option ρ:=
 fun(v2,v3,v4,o5,o6,_)=>
 (bif decide ((v4:Int)<v3)then
 (ix v2 v4).bind fun x7=>
 (bif !(seq x7.name (⟨#[]⟩:ByteArray))then rec (v2,v3,IntKind.wrap .i64 (v4+1),((Ev.Query.mk o5.1.dots o5.1.arrows o5.1.wher o5.1.items o5.1.dist),()),b0s .str .bool o6 x7.name false,())
 else rec (v2,v3,IntKind.wrap .i64 (v4+1),((Ev.Query.mk o5.1.dots o5.1.arrows o5.1.wher o5.1.items o5.1.dist),()),o6,()))
 else kx (((Ev.Query.mk o5.1.dots o5.1.arrows o5.1.wher o5.1.items o5.1.dist),()),o6,()))
def y0g{ρ:Type}(n:Nat)(rec:(List Ev.Arrow)×Int×Int×(List (ByteArray×Bool))×Unit→Option ρ)(kx:(List (ByteArray×Bool))×Unit→Option ρ)(kr:(List (ByteArray×Bool))×Int×Unit→Option ρ):(List Ev.Arrow)×Int×Int×(List (ByteArray×Bool))×Unit→Option ρ:=
 fun(v10,v11,v12,o13,_)=>
 (bif decide ((v12:Int)<v11)then
 (ix v10 v12).bind fun x14=>
 (bif seq x14.name (⟨#[]⟩:ByteArray)then rec (v10,v11,IntKind.wrap .i64 (v12+1),o13,())
 else
 (bif (d0v .str .bool o13 x14.name)then kr (([]:List (ByteArray×Bool)),7,())
 else rec (v10,v11,IntKind.wrap .i64 (v12+1),b0s .str .bool o13 x14.name true,())))
 else kx (o13,()))
def p0y{ρ:Type}(n:Nat)(kr:Unit→Option ρ):Int→Ev.Dot→((Ev.Query×Unit)×(List (ByteArray×Bool))×Unit)→(((Ev.Query×Unit)×(List (ByteArray×Bool))×Unit)→Option ρ)→Option ρ:=
 fun v4 x7 (o5,o6,_) rec=>
 (bif !(seq x7.name (⟨#[]⟩:ByteArray))then rec (((Ev.Query.mk o5.1.dots o5.1.arrows o5.1.wher o5.1.items o5.1.dist),()),b0s .str .bool o6 x7.name false,())
 else rec (((Ev.Query.mk o5.1.dots o5.1.arrows o5.1.wher o5.1.items o5.1.dist),()),o6,()))
theorem k0p{ρ:Type}(n:Nat)(kx:(Ev.Query×Unit)×(List (ByteArray×Bool))×Unit→Option ρ)(kr:Unit→Option ρ)(l:List Ev.Dot)(fuel:Nat)(o5:Ev.Query×Unit)(o6:List (ByteArray×Bool))(hl:l.length≤9223372036854775807)(hf:l.length<fuel):
  a0k (fun rc=>y0p n rc kx kr) fuel (l,(l.length:Int),0,o5,o6,())=a0i (p0y n kr) (fun(o5,o6,_)=>kx (((Ev.Query.mk o5.1.dots o5.1.arrows o5.1.wher o5.1.items o5.1.dist),()),o6,())) 0 l (o5,o6,()):=
 a0h l (fun i (o5,o6,_)=>(l,(l.length:Int),i,o5,o6,())) _ _ _ (fun rec i s=>rfl) hl fuel (o5,o6,()) hf
def s0p{ρ:Type}(n:Nat)(kr:(List (ByteArray×Bool))×Int×Unit→Option ρ):Int→Ev.Arrow→((List (ByteArray×Bool))×Unit)→(((List (ByteArray×Bool))×Unit)→Option ρ)→Option ρ:=
 fun v12 x14 (o13,_) rec=>
 (bif seq x14.name (⟨#[]⟩:ByteArray)then rec (o13,())
 else
 (bif (d0v .str .bool o13 x14.name)then kr (([]:List (ByteArray×Bool)),7,())
 else rec (b0s .str .bool o13 x14.name true,())))
theorem m0l{ρ:Type}(n:Nat)(kx:(List (ByteArray×Bool))×Unit→Option ρ)(kr:(List (ByteArray×Bool))×Int×Unit→Option ρ)(l:List Ev.Arrow)(fuel:Nat)(o13:List (ByteArray×Bool))(hl:l.length≤9223372036854775807)(hf:l.length<fuel):
  a0k (fun rc=>y0g n rc kx kr) fuel (l,(l.length:Int),0,o13,())=a0i (s0p n kr) (fun(o13,_)=>kx (o13,())) 0 l (o13,()):=
 a0h l (fun i (o13,_)=>(l,(l.length:Int),i,o13,())) _ _ _ (fun rec i s=>rfl) hl fuel (o13,()) hf
def q48z(n:Nat):Ev.Query×Unit→Option ((List (ByteArray×Bool))×Int×Unit):=
 fun(a1,_)=>
 a0k (fun rc19=>y0p n rc19 (fun(o8,o9,_)=>
 a0k (fun rc18=>y0g n rc18 (fun(o15,_)=>some (o15,0,())) (fun(v16,v17,_)=>some (v16,v17,()))) (n) (o8.1.arrows,(o8.1.arrows.length:Int),0,o9,())) (fun(_)=>none)) (n) (a1.dots,(a1.dots.length:Int),0,((Ev.Query.mk a1.dots a1.arrows a1.wher a1.items a1.dist),()),([]:List (ByteArray×Bool)),())
def j0d{ρ:Type}(self_q55z:Ev.Val×Int×Unit→Option (Int×Unit))(n:Nat)(rec:Int×(List Ev.Val)×Int×Int×(Ev.Val×Unit)×Unit→Option ρ)(kx:(Ev.Val×Unit)×Unit→Option ρ)(kr:Int×Unit→Option ρ):Int×(List Ev.Val)×Int×Int×(Ev.Val×Unit)×Unit→Option ρ:=
 fun(v4,v5,v6,v7,o8,_)=>
 (bif decide ((v7:Int)<v6)then
 (ix v5 v7).bind fun x9=>
 (self_q55z ((Ev.Val.mk x9.kind x9.n x9.s x9.l),IntKind.wrap .i64 (v4+1),())).bind fun(y10,_)=>
 (bif (y10:Int) !=0 then kr (y10,())
 else rec (v4,v5,v6,IntKind.wrap .i64 (v7+1),((Ev.Val.mk o8.1.kind o8.1.n o8.1.s o8.1.l),()),()))
 else kx (((Ev.Val.mk o8.1.kind o8.1.n o8.1.s o8.1.l),()),()))
def x1s{ρ:Type}(self_q55z:Ev.Val×Int×Unit→Option (Int×Unit))(n:Nat)(kr:Int×Unit→Option ρ):Int→Ev.Val→(Int×(Ev.Val×Unit)×Unit)→((Int×(Ev.Val×Unit)×Unit)→Option ρ)→Option ρ:=
 fun v7 x9 (v4,o8,_) rec=>
 (self_q55z ((Ev.Val.mk x9.kind x9.n x9.s x9.l),IntKind.wrap .i64 (v4+1),())).bind fun(y10,_)=>
 (bif (y10:Int) !=0 then kr (y10,())
 else rec (v4,((Ev.Val.mk o8.1.kind o8.1.n o8.1.s o8.1.l),()),()))
theorem q0h{ρ:Type}(self_q55z:Ev.Val×Int×Unit→Option (Int×Unit))(n:Nat)(kx:(Ev.Val×Unit)×Unit→Option ρ)(kr:Int×Unit→Option ρ)(l:List Ev.Val)(fuel:Nat)(v4:Int)(o8:Ev.Val×Unit)(hl:l.length≤9223372036854775807)(hf:l.length<fuel):
  a0k (fun rc=>j0d self_q55z n rc kx kr) fuel (v4,l,(l.length:Int),0,o8,())=a0i (x1s self_q55z n kr) (fun(v4,o8,_)=>kx (((Ev.Val.mk o8.1.kind o8.1.n o8.1.s o8.1.l),()),())) 0 l (v4,o8,()):=
 a0h l (fun i (v4,o8,_)=>(v4,l,(l.length:Int),i,o8,())) _ _ _ (fun rec i s=>rfl) hl fuel (v4,o8,()) hf
def k1t(self_q55z:Ev.Val×Int×Unit→Option (Int×Unit))(n:Nat):Ev.Val×Int×Unit→Option (Int×Unit):=
 fun(a1,a2,_)=>
 (bif (a1.kind:Int)==0 then
 (bif !((((a1.n:Int)==0)&& (seq a1.s (⟨#[]⟩:ByteArray)))&& (((a1.l.length:Int):Int)==0))then some (6,())
 else some (0,()))
 else
 (bif (a1.kind:Int)==1 then
 (bif !(((((a1.n:Int)==0) || ((a1.n:Int)==1))&& (seq a1.s (⟨#[]⟩:ByteArray)))&& (((a1.l.length:Int):Int)==0))then some (6,())
 else some (0,()))
 else
 (bif (a1.kind:Int)==2 then
 (bif !((seq a1.s (⟨#[]⟩:ByteArray))&& (((a1.l.length:Int):Int)==0))then some (6,())
 else some (0,()))
 else
 (bif (a1.kind:Int)==3 then
 (bif decide (((a1.s.size:Int):Int) >4000)then some (2,())
 else
 (bif (a1.n:Int)==0 then
 (u0q (a1.s,())).bind fun(y3,_)=>
 (bif !(y3&& (((a1.l.length:Int):Int)==0))then some (6,())
 else some (0,()))
 else some (6,())))
 else
 (bif (a1.kind:Int)==4 then
 (bif (decide (((a1.l.length:Int):Int) >30)) || (decide ((a2:Int) >6))then some (2,())
 else
 a0k (fun rc13=>j0d self_q55z n rc13 (fun(o11,_)=>
 (bif !(((o11.1.n:Int)==0)&& (seq o11.1.s (⟨#[]⟩:ByteArray)))then some (6,())
 else some (0,()))) (fun(v12,_)=>some (v12,()))) (n) (a2,a1.l,(a1.l.length:Int),0,((Ev.Val.mk a1.kind a1.n a1.s a1.l),()),()))
 else some (6,()))))))
def q55z:Nat→Ev.Val×Int×Unit→Option (Int×Unit)
 | 0,_=>none
 | n+1,x=>k1t (q55z n) n x
def q53z(n:Nat):Ev.Val×Unit→Option (Int×Unit):=
 fun(a1,_)=>
 (q55z n ((Ev.Val.mk a1.kind a1.n a1.s a1.l),1,())).bind fun(y2,_)=>some (y2,())
def q62z:ByteArray×Unit→Option (Int×Bool×Unit):=
 fun(a1,_)=>
 (bif seq a1 (⟨#[43]⟩:ByteArray)then
 (bif seq a1 (⟨#[43]⟩:ByteArray)then some (2,true,())
 else
 (bif seq a1 (⟨#[110,111,116]⟩:ByteArray)then
 (bif seq a1 (⟨#[110,111,116]⟩:ByteArray)then some (1,true,())
 else
 (bif seq a1 (⟨#[99,111,97,108,101,115,99,101]⟩:ByteArray)then
 (bif seq a1 (⟨#[99,111,97,108,101,115,99,101]⟩:ByteArray)then some ((-1),true,())
 else some (0,false,()))
 else
 (bif seq a1 (⟨#[108,105,115,116]⟩:ByteArray)then some ((-1),true,())
 else some (0,false,()))))
 else
 (bif seq a1 (⟨#[110,117,108,108]⟩:ByteArray)then
 (bif seq a1 (⟨#[110,117,108,108]⟩:ByteArray)then some (1,true,())
 else
 (bif seq a1 (⟨#[99,111,97,108,101,115,99,101]⟩:ByteArray)then
 (bif seq a1 (⟨#[99,111,97,108,101,115,99,101]⟩:ByteArray)then some ((-1),true,())
 else some (0,false,()))
 else
 (bif seq a1 (⟨#[108,105,115,116]⟩:ByteArray)then some ((-1),true,())
 else some (0,false,()))))
 else
 (bif seq a1 (⟨#[115,105,122,101]⟩:ByteArray)then
 (bif seq a1 (⟨#[115,105,122,101]⟩:ByteArray)then some (1,true,())
 else
 (bif seq a1 (⟨#[99,111,97,108,101,115,99,101]⟩:ByteArray)then
 (bif seq a1 (⟨#[99,111,97,108,101,115,99,101]⟩:ByteArray)then some ((-1),true,())
 else some (0,false,()))
 else
 (bif seq a1 (⟨#[108,105,115,116]⟩:ByteArray)then some ((-1),true,())
 else some (0,false,()))))
 else
 (bif seq a1 (⟨#[104,101,97,100]⟩:ByteArray)then
 (bif seq a1 (⟨#[104,101,97,100]⟩:ByteArray)then some (1,true,())
 else
 (bif seq a1 (⟨#[99,111,97,108,101,115,99,101]⟩:ByteArray)then
 (bif seq a1 (⟨#[99,111,97,108,101,115,99,101]⟩:ByteArray)then some ((-1),true,())
 else some (0,false,()))
 else
 (bif seq a1 (⟨#[108,105,115,116]⟩:ByteArray)then some ((-1),true,())
 else some (0,false,()))))
 else
 (bif seq a1 (⟨#[105,100]⟩:ByteArray)then
 (bif seq a1 (⟨#[105,100]⟩:ByteArray)then some (1,true,())
 else
 (bif seq a1 (⟨#[99,111,97,108,101,115,99,101]⟩:ByteArray)then
 (bif seq a1 (⟨#[99,111,97,108,101,115,99,101]⟩:ByteArray)then some ((-1),true,())
 else some (0,false,()))
 else
 (bif seq a1 (⟨#[108,105,115,116]⟩:ByteArray)then some ((-1),true,())
 else some (0,false,()))))
 else
 (bif seq a1 (⟨#[116,121,112,101]⟩:ByteArray)then some (1,true,())
 else
 (bif seq a1 (⟨#[99,111,97,108,101,115,99,101]⟩:ByteArray)then
 (bif seq a1 (⟨#[99,111,97,108,101,115,99,101]⟩:ByteArray)then some ((-1),true,())
 else some (0,false,()))
 else
 (bif seq a1 (⟨#[108,105,115,116]⟩:ByteArray)then some ((-1),true,())
 else some (0,false,()))))))))))
 else
 (bif seq a1 (⟨#[45]⟩:ByteArray)then
 (bif seq a1 (⟨#[45]⟩:ByteArray)then some (2,true,())
 else
 (bif seq a1 (⟨#[110,111,116]⟩:ByteArray)then
 (bif seq a1 (⟨#[110,111,116]⟩:ByteArray)then some (1,true,())
 else
 (bif seq a1 (⟨#[99,111,97,108,101,115,99,101]⟩:ByteArray)then
 (bif seq a1 (⟨#[99,111,97,108,101,115,99,101]⟩:ByteArray)then some ((-1),true,())
 else some (0,false,()))
 else
 (bif seq a1 (⟨#[108,105,115,116]⟩:ByteArray)then some ((-1),true,())
 else some (0,false,()))))
 else
 (bif seq a1 (⟨#[110,117,108,108]⟩:ByteArray)then
 (bif seq a1 (⟨#[110,117,108,108]⟩:ByteArray)then some (1,true,())
 else
 (bif seq a1 (⟨#[99,111,97,108,101,115,99,101]⟩:ByteArray)then
 (bif seq a1 (⟨#[99,111,97,108,101,115,99,101]⟩:ByteArray)then some ((-1),true,())
 else some (0,false,()))
 else
 (bif seq a1 (⟨#[108,105,115,116]⟩:ByteArray)then some ((-1),true,())
 else some (0,false,()))))
 else
 (bif seq a1 (⟨#[115,105,122,101]⟩:ByteArray)then
 (bif seq a1 (⟨#[115,105,122,101]⟩:ByteArray)then some (1,true,())
 else
 (bif seq a1 (⟨#[99,111,97,108,101,115,99,101]⟩:ByteArray)then
 (bif seq a1 (⟨#[99,111,97,108,101,115,99,101]⟩:ByteArray)then some ((-1),true,())
 else some (0,false,()))
 else
 (bif seq a1 (⟨#[108,105,115,116]⟩:ByteArray)then some ((-1),true,())
 else some (0,false,()))))
 else
 (bif seq a1 (⟨#[104,101,97,100]⟩:ByteArray)then
 (bif seq a1 (⟨#[104,101,97,100]⟩:ByteArray)then some (1,true,())
 else
 (bif seq a1 (⟨#[99,111,97,108,101,115,99,101]⟩:ByteArray)then
 (bif seq a1 (⟨#[99,111,97,108,101,115,99,101]⟩:ByteArray)then some ((-1),true,())
 else some (0,false,()))
 else
 (bif seq a1 (⟨#[108,105,115,116]⟩:ByteArray)then some ((-1),true,())
 else some (0,false,()))))
 else
 (bif seq a1 (⟨#[105,100]⟩:ByteArray)then
 (bif seq a1 (⟨#[105,100]⟩:ByteArray)then some (1,true,())
 else
 (bif seq a1 (⟨#[99,111,97,108,101,115,99,101]⟩:ByteArray)then
 (bif seq a1 (⟨#[99,111,97,108,101,115,99,101]⟩:ByteArray)then some ((-1),true,())
 else some (0,false,()))
 else
 (bif seq a1 (⟨#[108,105,115,116]⟩:ByteArray)then some ((-1),true,())
 else some (0,false,()))))
 else
 (bif seq a1 (⟨#[116,121,112,101]⟩:ByteArray)then some (1,true,())
 else
 (bif seq a1 (⟨#[99,111,97,108,101,115,99,101]⟩:ByteArray)then
 (bif seq a1 (⟨#[99,111,97,108,101,115,99,101]⟩:ByteArray)then some ((-1),true,())
 else some (0,false,()))
 else
 (bif seq a1 (⟨#[108,105,115,116]⟩:ByteArray)then some ((-1),true,())
 else some (0,false,()))))))))))
 else
 (bif seq a1 (⟨#[42]⟩:ByteArray)then
 (bif seq a1 (⟨#[42]⟩:ByteArray)then some (2,true,())
 else
 (bif seq a1 (⟨#[110,111,116]⟩:ByteArray)then
 (bif seq a1 (⟨#[110,111,116]⟩:ByteArray)then some (1,true,())
 else
 (bif seq a1 (⟨#[99,111,97,108,101,115,99,101]⟩:ByteArray)then
 (bif seq a1 (⟨#[99,111,97,108,101,115,99,101]⟩:ByteArray)then some ((-1),true,())
 else some (0,false,()))
 else
 (bif seq a1 (⟨#[108,105,115,116]⟩:ByteArray)then some ((-1),true,())
 else some (0,false,()))))
 else
 (bif seq a1 (⟨#[110,117,108,108]⟩:ByteArray)then
 (bif seq a1 (⟨#[110,117,108,108]⟩:ByteArray)then some (1,true,())
 else
 (bif seq a1 (⟨#[99,111,97,108,101,115,99,101]⟩:ByteArray)then
 (bif seq a1 (⟨#[99,111,97,108,101,115,99,101]⟩:ByteArray)then some ((-1),true,())
 else some (0,false,()))
 else
 (bif seq a1 (⟨#[108,105,115,116]⟩:ByteArray)then some ((-1),true,())
 else some (0,false,()))))
 else
 (bif seq a1 (⟨#[115,105,122,101]⟩:ByteArray)then
 (bif seq a1 (⟨#[115,105,122,101]⟩:ByteArray)then some (1,true,())
 else
 (bif seq a1 (⟨#[99,111,97,108,101,115,99,101]⟩:ByteArray)then
 (bif seq a1 (⟨#[99,111,97,108,101,115,99,101]⟩:ByteArray)then some ((-1),true,())
 else some (0,false,()))
 else
 (bif seq a1 (⟨#[108,105,115,116]⟩:ByteArray)then some ((-1),true,())
 else some (0,false,()))))
 else
 (bif seq a1 (⟨#[104,101,97,100]⟩:ByteArray)then
 (bif seq a1 (⟨#[104,101,97,100]⟩:ByteArray)then some (1,true,())
 else
 (bif seq a1 (⟨#[99,111,97,108,101,115,99,101]⟩:ByteArray)then
 (bif seq a1 (⟨#[99,111,97,108,101,115,99,101]⟩:ByteArray)then some ((-1),true,())
 else some (0,false,()))
 else
 (bif seq a1 (⟨#[108,105,115,116]⟩:ByteArray)then some ((-1),true,())
 else some (0,false,()))))
 else
 (bif seq a1 (⟨#[105,100]⟩:ByteArray)then
 (bif seq a1 (⟨#[105,100]⟩:ByteArray)then some (1,true,())
 else
 (bif seq a1 (⟨#[99,111,97,108,101,115,99,101]⟩:ByteArray)then
 (bif seq a1 (⟨#[99,111,97,108,101,115,99,101]⟩:ByteArray)then some ((-1),true,())
 else some (0,false,()))
 else
 (bif seq a1 (⟨#[108,105,115,116]⟩:ByteArray)then some ((-1),true,())
 else some (0,false,()))))
 else
 (bif seq a1 (⟨#[116,121,112,101]⟩:ByteArray)then some (1,true,())
 else
 (bif seq a1 (⟨#[99,111,97,108,101,115,99,101]⟩:ByteArray)then
 (bif seq a1 (⟨#[99,111,97,108,101,115,99,101]⟩:ByteArray)then some ((-1),true,())
 else some (0,false,()))
 else
 (bif seq a1 (⟨#[108,105,115,116]⟩:ByteArray)then some ((-1),true,())
 else some (0,false,()))))))))))
 else
 (bif seq a1 (⟨#[61]⟩:ByteArray)then
 (bif seq a1 (⟨#[61]⟩:ByteArray)then some (2,true,())
 else
 (bif seq a1 (⟨#[110,111,116]⟩:ByteArray)then
 (bif seq a1 (⟨#[110,111,116]⟩:ByteArray)then some (1,true,())
 else
 (bif seq a1 (⟨#[99,111,97,108,101,115,99,101]⟩:ByteArray)then
 (bif seq a1 (⟨#[99,111,97,108,101,115,99,101]⟩:ByteArray)then some ((-1),true,())
 else some (0,false,()))
 else
 (bif seq a1 (⟨#[108,105,115,116]⟩:ByteArray)then some ((-1),true,())
 else some (0,false,()))))
 else
 (bif seq a1 (⟨#[110,117,108,108]⟩:ByteArray)then
 (bif seq a1 (⟨#[110,117,108,108]⟩:ByteArray)then some (1,true,())
 else
 (bif seq a1 (⟨#[99,111,97,108,101,115,99,101]⟩:ByteArray)then
 (bif seq a1 (⟨#[99,111,97,108,101,115,99,101]⟩:ByteArray)then some ((-1),true,())
 else some (0,false,()))
 else
 (bif seq a1 (⟨#[108,105,115,116]⟩:ByteArray)then some ((-1),true,())
 else some (0,false,()))))
 else
 (bif seq a1 (⟨#[115,105,122,101]⟩:ByteArray)then
 (bif seq a1 (⟨#[115,105,122,101]⟩:ByteArray)then some (1,true,())
 else
 (bif seq a1 (⟨#[99,111,97,108,101,115,99,101]⟩:ByteArray)then
 (bif seq a1 (⟨#[99,111,97,108,101,115,99,101]⟩:ByteArray)then some ((-1),true,())
 else some (0,false,()))
 else
 (bif seq a1 (⟨#[108,105,115,116]⟩:ByteArray)then some ((-1),true,())
 else some (0,false,()))))
 else
 (bif seq a1 (⟨#[104,101,97,100]⟩:ByteArray)then
 (bif seq a1 (⟨#[104,101,97,100]⟩:ByteArray)then some (1,true,())
 else
 (bif seq a1 (⟨#[99,111,97,108,101,115,99,101]⟩:ByteArray)then
 (bif seq a1 (⟨#[99,111,97,108,101,115,99,101]⟩:ByteArray)then some ((-1),true,())
 else some (0,false,()))
 else
 (bif seq a1 (⟨#[108,105,115,116]⟩:ByteArray)then some ((-1),true,())
 else some (0,false,()))))
 else
 (bif seq a1 (⟨#[105,100]⟩:ByteArray)then
 (bif seq a1 (⟨#[105,100]⟩:ByteArray)then some (1,true,())
 else
 (bif seq a1 (⟨#[99,111,97,108,101,115,99,101]⟩:ByteArray)then
 (bif seq a1 (⟨#[99,111,97,108,101,115,99,101]⟩:ByteArray)then some ((-1),true,())
 else some (0,false,()))
 else
 (bif seq a1 (⟨#[108,105,115,116]⟩:ByteArray)then some ((-1),true,())
 else some (0,false,()))))
 else
 (bif seq a1 (⟨#[116,121,112,101]⟩:ByteArray)then some (1,true,())
 else
 (bif seq a1 (⟨#[99,111,97,108,101,115,99,101]⟩:ByteArray)then
 (bif seq a1 (⟨#[99,111,97,108,101,115,99,101]⟩:ByteArray)then some ((-1),true,())
 else some (0,false,()))
 else
 (bif seq a1 (⟨#[108,105,115,116]⟩:ByteArray)then some ((-1),true,())
 else some (0,false,()))))))))))
 else
 (bif seq a1 (⟨#[60]⟩:ByteArray)then
 (bif seq a1 (⟨#[60]⟩:ByteArray)then some (2,true,())
 else
 (bif seq a1 (⟨#[110,111,116]⟩:ByteArray)then
 (bif seq a1 (⟨#[110,111,116]⟩:ByteArray)then some (1,true,())
 else
 (bif seq a1 (⟨#[99,111,97,108,101,115,99,101]⟩:ByteArray)then
 (bif seq a1 (⟨#[99,111,97,108,101,115,99,101]⟩:ByteArray)then some ((-1),true,())
 else some (0,false,()))
 else
 (bif seq a1 (⟨#[108,105,115,116]⟩:ByteArray)then some ((-1),true,())
 else some (0,false,()))))
 else
 (bif seq a1 (⟨#[110,117,108,108]⟩:ByteArray)then
 (bif seq a1 (⟨#[110,117,108,108]⟩:ByteArray)then some (1,true,())
 else
 (bif seq a1 (⟨#[99,111,97,108,101,115,99,101]⟩:ByteArray)then
 (bif seq a1 (⟨#[99,111,97,108,101,115,99,101]⟩:ByteArray)then some ((-1),true,())
 else some (0,false,()))
 else
 (bif seq a1 (⟨#[108,105,115,116]⟩:ByteArray)then some ((-1),true,())
 else some (0,false,()))))
 else
 (bif seq a1 (⟨#[115,105,122,101]⟩:ByteArray)then
 (bif seq a1 (⟨#[115,105,122,101]⟩:ByteArray)then some (1,true,())
 else
 (bif seq a1 (⟨#[99,111,97,108,101,115,99,101]⟩:ByteArray)then
 (bif seq a1 (⟨#[99,111,97,108,101,115,99,101]⟩:ByteArray)then some ((-1),true,())
 else some (0,false,()))
 else
 (bif seq a1 (⟨#[108,105,115,116]⟩:ByteArray)then some ((-1),true,())
 else some (0,false,()))))
 else
 (bif seq a1 (⟨#[104,101,97,100]⟩:ByteArray)then
 (bif seq a1 (⟨#[104,101,97,100]⟩:ByteArray)then some (1,true,())
 else
 (bif seq a1 (⟨#[99,111,97,108,101,115,99,101]⟩:ByteArray)then
 (bif seq a1 (⟨#[99,111,97,108,101,115,99,101]⟩:ByteArray)then some ((-1),true,())
 else some (0,false,()))
 else
 (bif seq a1 (⟨#[108,105,115,116]⟩:ByteArray)then some ((-1),true,())
 else some (0,false,()))))
 else
 (bif seq a1 (⟨#[105,100]⟩:ByteArray)then
 (bif seq a1 (⟨#[105,100]⟩:ByteArray)then some (1,true,())
 else
 (bif seq a1 (⟨#[99,111,97,108,101,115,99,101]⟩:ByteArray)then
 (bif seq a1 (⟨#[99,111,97,108,101,115,99,101]⟩:ByteArray)then some ((-1),true,())
 else some (0,false,()))
 else
 (bif seq a1 (⟨#[108,105,115,116]⟩:ByteArray)then some ((-1),true,())
 else some (0,false,()))))
 else
 (bif seq a1 (⟨#[116,121,112,101]⟩:ByteArray)then some (1,true,())
 else
 (bif seq a1 (⟨#[99,111,97,108,101,115,99,101]⟩:ByteArray)then
 (bif seq a1 (⟨#[99,111,97,108,101,115,99,101]⟩:ByteArray)then some ((-1),true,())
 else some (0,false,()))
 else
 (bif seq a1 (⟨#[108,105,115,116]⟩:ByteArray)then some ((-1),true,())
 else some (0,false,()))))))))))
 else
 (bif seq a1 (⟨#[60,61]⟩:ByteArray)then
 (bif seq a1 (⟨#[60,61]⟩:ByteArray)then some (2,true,())
 else
 (bif seq a1 (⟨#[110,111,116]⟩:ByteArray)then
 (bif seq a1 (⟨#[110,111,116]⟩:ByteArray)then some (1,true,())
 else
 (bif seq a1 (⟨#[99,111,97,108,101,115,99,101]⟩:ByteArray)then
 (bif seq a1 (⟨#[99,111,97,108,101,115,99,101]⟩:ByteArray)then some ((-1),true,())
 else some (0,false,()))
 else
 (bif seq a1 (⟨#[108,105,115,116]⟩:ByteArray)then some ((-1),true,())
 else some (0,false,()))))
 else
 (bif seq a1 (⟨#[110,117,108,108]⟩:ByteArray)then
 (bif seq a1 (⟨#[110,117,108,108]⟩:ByteArray)then some (1,true,())
 else
 (bif seq a1 (⟨#[99,111,97,108,101,115,99,101]⟩:ByteArray)then
 (bif seq a1 (⟨#[99,111,97,108,101,115,99,101]⟩:ByteArray)then some ((-1),true,())
 else some (0,false,()))
 else
 (bif seq a1 (⟨#[108,105,115,116]⟩:ByteArray)then some ((-1),true,())
 else some (0,false,()))))
 else
 (bif seq a1 (⟨#[115,105,122,101]⟩:ByteArray)then
 (bif seq a1 (⟨#[115,105,122,101]⟩:ByteArray)then some (1,true,())
 else
 (bif seq a1 (⟨#[99,111,97,108,101,115,99,101]⟩:ByteArray)then
 (bif seq a1 (⟨#[99,111,97,108,101,115,99,101]⟩:ByteArray)then some ((-1),true,())
 else some (0,false,()))
 else
 (bif seq a1 (⟨#[108,105,115,116]⟩:ByteArray)then some ((-1),true,())
 else some (0,false,()))))
 else
 (bif seq a1 (⟨#[104,101,97,100]⟩:ByteArray)then
 (bif seq a1 (⟨#[104,101,97,100]⟩:ByteArray)then some (1,true,())
 else
 (bif seq a1 (⟨#[99,111,97,108,101,115,99,101]⟩:ByteArray)then
 (bif seq a1 (⟨#[99,111,97,108,101,115,99,101]⟩:ByteArray)then some ((-1),true,())
 else some (0,false,()))
 else
 (bif seq a1 (⟨#[108,105,115,116]⟩:ByteArray)then some ((-1),true,())
 else some (0,false,()))))
 else
 (bif seq a1 (⟨#[105,100]⟩:ByteArray)then
 (bif seq a1 (⟨#[105,100]⟩:ByteArray)then some (1,true,())
 else
 (bif seq a1 (⟨#[99,111,97,108,101,115,99,101]⟩:ByteArray)then
 (bif seq a1 (⟨#[99,111,97,108,101,115,99,101]⟩:ByteArray)then some ((-1),true,())
 else some (0,false,()))
 else
 (bif seq a1 (⟨#[108,105,115,116]⟩:ByteArray)then some ((-1),true,())
 else some (0,false,()))))
 else
 (bif seq a1 (⟨#[116,121,112,101]⟩:ByteArray)then some (1,true,())
 else
 (bif seq a1 (⟨#[99,111,97,108,101,115,99,101]⟩:ByteArray)then
 (bif seq a1 (⟨#[99,111,97,108,101,115,99,101]⟩:ByteArray)then some ((-1),true,())
 else some (0,false,()))
 else
 (bif seq a1 (⟨#[108,105,115,116]⟩:ByteArray)then some ((-1),true,())
 else some (0,false,()))))))))))
 else
 (bif seq a1 (⟨#[97,110,100]⟩:ByteArray)then
 (bif seq a1 (⟨#[97,110,100]⟩:ByteArray)then some (2,true,())
 else
 (bif seq a1 (⟨#[110,111,116]⟩:ByteArray)then
 (bif seq a1 (⟨#[110,111,116]⟩:ByteArray)then some (1,true,())
 else
 (bif seq a1 (⟨#[99,111,97,108,101,115,99,101]⟩:ByteArray)then
 (bif seq a1 (⟨#[99,111,97,108,101,115,99,101]⟩:ByteArray)then some ((-1),true,())
 else some (0,false,()))
 else
 (bif seq a1 (⟨#[108,105,115,116]⟩:ByteArray)then some ((-1),true,())
 else some (0,false,()))))
 else
 (bif seq a1 (⟨#[110,117,108,108]⟩:ByteArray)then
 (bif seq a1 (⟨#[110,117,108,108]⟩:ByteArray)then some (1,true,())
 else
 (bif seq a1 (⟨#[99,111,97,108,101,115,99,101]⟩:ByteArray)then
 (bif seq a1 (⟨#[99,111,97,108,101,115,99,101]⟩:ByteArray)then some ((-1),true,())
 else some (0,false,()))
 else
 (bif seq a1 (⟨#[108,105,115,116]⟩:ByteArray)then some ((-1),true,())
 else some (0,false,()))))
 else
 (bif seq a1 (⟨#[115,105,122,101]⟩:ByteArray)then
 (bif seq a1 (⟨#[115,105,122,101]⟩:ByteArray)then some (1,true,())
 else
 (bif seq a1 (⟨#[99,111,97,108,101,115,99,101]⟩:ByteArray)then
 (bif seq a1 (⟨#[99,111,97,108,101,115,99,101]⟩:ByteArray)then some ((-1),true,())
 else some (0,false,()))
 else
 (bif seq a1 (⟨#[108,105,115,116]⟩:ByteArray)then some ((-1),true,())
 else some (0,false,()))))
 else
 (bif seq a1 (⟨#[104,101,97,100]⟩:ByteArray)then
 (bif seq a1 (⟨#[104,101,97,100]⟩:ByteArray)then some (1,true,())
 else
 (bif seq a1 (⟨#[99,111,97,108,101,115,99,101]⟩:ByteArray)then
 (bif seq a1 (⟨#[99,111,97,108,101,115,99,101]⟩:ByteArray)then some ((-1),true,())
 else some (0,false,()))
 else
 (bif seq a1 (⟨#[108,105,115,116]⟩:ByteArray)then some ((-1),true,())
 else some (0,false,()))))
 else
 (bif seq a1 (⟨#[105,100]⟩:ByteArray)then
 (bif seq a1 (⟨#[105,100]⟩:ByteArray)then some (1,true,())
 else
 (bif seq a1 (⟨#[99,111,97,108,101,115,99,101]⟩:ByteArray)then
 (bif seq a1 (⟨#[99,111,97,108,101,115,99,101]⟩:ByteArray)then some ((-1),true,())
 else some (0,false,()))
 else
 (bif seq a1 (⟨#[108,105,115,116]⟩:ByteArray)then some ((-1),true,())
 else some (0,false,()))))
 else
 (bif seq a1 (⟨#[116,121,112,101]⟩:ByteArray)then some (1,true,())
 else
 (bif seq a1 (⟨#[99,111,97,108,101,115,99,101]⟩:ByteArray)then
 (bif seq a1 (⟨#[99,111,97,108,101,115,99,101]⟩:ByteArray)then some ((-1),true,())
 else some (0,false,()))
 else
 (bif seq a1 (⟨#[108,105,115,116]⟩:ByteArray)then some ((-1),true,())
 else some (0,false,()))))))))))
 else
 (bif seq a1 (⟨#[111,114]⟩:ByteArray)then
 (bif seq a1 (⟨#[111,114]⟩:ByteArray)then some (2,true,())
 else
 (bif seq a1 (⟨#[110,111,116]⟩:ByteArray)then
 (bif seq a1 (⟨#[110,111,116]⟩:ByteArray)then some (1,true,())
 else
 (bif seq a1 (⟨#[99,111,97,108,101,115,99,101]⟩:ByteArray)then
 (bif seq a1 (⟨#[99,111,97,108,101,115,99,101]⟩:ByteArray)then some ((-1),true,())
 else some (0,false,()))
 else
 (bif seq a1 (⟨#[108,105,115,116]⟩:ByteArray)then some ((-1),true,())
 else some (0,false,()))))
 else
 (bif seq a1 (⟨#[110,117,108,108]⟩:ByteArray)then
 (bif seq a1 (⟨#[110,117,108,108]⟩:ByteArray)then some (1,true,())
 else
 (bif seq a1 (⟨#[99,111,97,108,101,115,99,101]⟩:ByteArray)then
 (bif seq a1 (⟨#[99,111,97,108,101,115,99,101]⟩:ByteArray)then some ((-1),true,())
 else some (0,false,()))
 else
 (bif seq a1 (⟨#[108,105,115,116]⟩:ByteArray)then some ((-1),true,())
 else some (0,false,()))))
 else
 (bif seq a1 (⟨#[115,105,122,101]⟩:ByteArray)then
 (bif seq a1 (⟨#[115,105,122,101]⟩:ByteArray)then some (1,true,())
 else
 (bif seq a1 (⟨#[99,111,97,108,101,115,99,101]⟩:ByteArray)then
 (bif seq a1 (⟨#[99,111,97,108,101,115,99,101]⟩:ByteArray)then some ((-1),true,())
 else some (0,false,()))
 else
 (bif seq a1 (⟨#[108,105,115,116]⟩:ByteArray)then some ((-1),true,())
 else some (0,false,()))))
 else
 (bif seq a1 (⟨#[104,101,97,100]⟩:ByteArray)then
 (bif seq a1 (⟨#[104,101,97,100]⟩:ByteArray)then some (1,true,())
 else
 (bif seq a1 (⟨#[99,111,97,108,101,115,99,101]⟩:ByteArray)then
 (bif seq a1 (⟨#[99,111,97,108,101,115,99,101]⟩:ByteArray)then some ((-1),true,())
 else some (0,false,()))
 else
 (bif seq a1 (⟨#[108,105,115,116]⟩:ByteArray)then some ((-1),true,())
 else some (0,false,()))))
 else
 (bif seq a1 (⟨#[105,100]⟩:ByteArray)then
 (bif seq a1 (⟨#[105,100]⟩:ByteArray)then some (1,true,())
 else
 (bif seq a1 (⟨#[99,111,97,108,101,115,99,101]⟩:ByteArray)then
 (bif seq a1 (⟨#[99,111,97,108,101,115,99,101]⟩:ByteArray)then some ((-1),true,())
 else some (0,false,()))
 else
 (bif seq a1 (⟨#[108,105,115,116]⟩:ByteArray)then some ((-1),true,())
 else some (0,false,()))))
 else
 (bif seq a1 (⟨#[116,121,112,101]⟩:ByteArray)then some (1,true,())
 else
 (bif seq a1 (⟨#[99,111,97,108,101,115,99,101]⟩:ByteArray)then
 (bif seq a1 (⟨#[99,111,97,108,101,115,99,101]⟩:ByteArray)then some ((-1),true,())
 else some (0,false,()))
 else
 (bif seq a1 (⟨#[108,105,115,116]⟩:ByteArray)then some ((-1),true,())
 else some (0,false,()))))))))))
 else
 (bif seq a1 (⟨#[105,110]⟩:ByteArray)then some (2,true,())
 else
 (bif seq a1 (⟨#[110,111,116]⟩:ByteArray)then
 (bif seq a1 (⟨#[110,111,116]⟩:ByteArray)then some (1,true,())
 else
 (bif seq a1 (⟨#[99,111,97,108,101,115,99,101]⟩:ByteArray)then
 (bif seq a1 (⟨#[99,111,97,108,101,115,99,101]⟩:ByteArray)then some ((-1),true,())
 else some (0,false,()))
 else
 (bif seq a1 (⟨#[108,105,115,116]⟩:ByteArray)then some ((-1),true,())
 else some (0,false,()))))
 else
 (bif seq a1 (⟨#[110,117,108,108]⟩:ByteArray)then
 (bif seq a1 (⟨#[110,117,108,108]⟩:ByteArray)then some (1,true,())
 else
 (bif seq a1 (⟨#[99,111,97,108,101,115,99,101]⟩:ByteArray)then
 (bif seq a1 (⟨#[99,111,97,108,101,115,99,101]⟩:ByteArray)then some ((-1),true,())
 else some (0,false,()))
 else
 (bif seq a1 (⟨#[108,105,115,116]⟩:ByteArray)then some ((-1),true,())
 else some (0,false,()))))
 else
 (bif seq a1 (⟨#[115,105,122,101]⟩:ByteArray)then
 (bif seq a1 (⟨#[115,105,122,101]⟩:ByteArray)then some (1,true,())
 else
 (bif seq a1 (⟨#[99,111,97,108,101,115,99,101]⟩:ByteArray)then
 (bif seq a1 (⟨#[99,111,97,108,101,115,99,101]⟩:ByteArray)then some ((-1),true,())
 else some (0,false,()))
 else
 (bif seq a1 (⟨#[108,105,115,116]⟩:ByteArray)then some ((-1),true,())
 else some (0,false,()))))
 else
 (bif seq a1 (⟨#[104,101,97,100]⟩:ByteArray)then
 (bif seq a1 (⟨#[104,101,97,100]⟩:ByteArray)then some (1,true,())
 else
 (bif seq a1 (⟨#[99,111,97,108,101,115,99,101]⟩:ByteArray)then
 (bif seq a1 (⟨#[99,111,97,108,101,115,99,101]⟩:ByteArray)then some ((-1),true,())
 else some (0,false,()))
 else
 (bif seq a1 (⟨#[108,105,115,116]⟩:ByteArray)then some ((-1),true,())
 else some (0,false,()))))
 else
 (bif seq a1 (⟨#[105,100]⟩:ByteArray)then
 (bif seq a1 (⟨#[105,100]⟩:ByteArray)then some (1,true,())
 else
 (bif seq a1 (⟨#[99,111,97,108,101,115,99,101]⟩:ByteArray)then
 (bif seq a1 (⟨#[99,111,97,108,101,115,99,101]⟩:ByteArray)then some ((-1),true,())
 else some (0,false,()))
 else
 (bif seq a1 (⟨#[108,105,115,116]⟩:ByteArray)then some ((-1),true,())
 else some (0,false,()))))
 else
 (bif seq a1 (⟨#[116,121,112,101]⟩:ByteArray)then some (1,true,())
 else
 (bif seq a1 (⟨#[99,111,97,108,101,115,99,101]⟩:ByteArray)then
 (bif seq a1 (⟨#[99,111,97,108,101,115,99,101]⟩:ByteArray)then some ((-1),true,())
 else some (0,false,()))
 else
 (bif seq a1 (⟨#[108,105,115,116]⟩:ByteArray)then some ((-1),true,())
 else some (0,false,()))))))))))))))))))
def w0x{ρ:Type}(self_q63z:Ev.Term×(List (ByteArray×Bool))×Int×Unit→Option (Int×Unit))(n:Nat)(rec:(List (ByteArray×Bool))×Int×(List Ev.Term)×Int×Int×(Ev.Term×Unit)×Unit→Option ρ)(kx:(List (ByteArray×Bool))×(Ev.Term×Unit)×Unit→Option ρ)(kr:Int×Unit→Option ρ):(List (ByteArray×Bool))×Int×(List Ev.Term)×Int×Int×(Ev.Term×Unit)×Unit→Option ρ:=
 fun(v12,v13,v14,v15,v16,o17,_)=>
 (bif decide ((v16:Int)<v15)then
 (ix v14 v16).bind fun x18=>
 (self_q63z ((Ev.Term.mk x18.kind (Ev.Val.mk x18.v.kind x18.v.n x18.v.s x18.v.l) x18.name x18.a),v12,IntKind.wrap .i64 (v13+1),())).bind fun(y19,_)=>
 (bif (y19:Int) !=0 then kr (y19,())
 else rec (v12,v13,v14,v15,IntKind.wrap .i64 (v16+1),((Ev.Term.mk o17.1.kind (Ev.Val.mk o17.1.v.kind o17.1.v.n o17.1.v.s o17.1.v.l) o17.1.name o17.1.a),()),()))
 else kx (v12,((Ev.Term.mk o17.1.kind (Ev.Val.mk o17.1.v.kind o17.1.v.n o17.1.v.s o17.1.v.l) o17.1.name o17.1.a),()),()))
def l0r{ρ:Type}(self_q63z:Ev.Term×(List (ByteArray×Bool))×Int×Unit→Option (Int×Unit))(n:Nat)(kr:Int×Unit→Option ρ):Int→Ev.Term→((List (ByteArray×Bool))×Int×(Ev.Term×Unit)×Unit)→(((List (ByteArray×Bool))×Int×(Ev.Term×Unit)×Unit)→Option ρ)→Option ρ:=
 fun v16 x18 (v12,v13,o17,_) rec=>
 (self_q63z ((Ev.Term.mk x18.kind (Ev.Val.mk x18.v.kind x18.v.n x18.v.s x18.v.l) x18.name x18.a),v12,IntKind.wrap .i64 (v13+1),())).bind fun(y19,_)=>
 (bif (y19:Int) !=0 then kr (y19,())
 else rec (v12,v13,((Ev.Term.mk o17.1.kind (Ev.Val.mk o17.1.v.kind o17.1.v.n o17.1.v.s o17.1.v.l) o17.1.name o17.1.a),()),()))
theorem m0e{ρ:Type}(self_q63z:Ev.Term×(List (ByteArray×Bool))×Int×Unit→Option (Int×Unit))(n:Nat)(kx:(List (ByteArray×Bool))×(Ev.Term×Unit)×Unit→Option ρ)(kr:Int×Unit→Option ρ)(l:List Ev.Term)(fuel:Nat)(v12:List (ByteArray×Bool))(v13:Int)(o17:Ev.Term×Unit)(hl:l.length≤9223372036854775807)(hf:l.length<fuel):
  a0k (fun rc=>w0x self_q63z n rc kx kr) fuel (v12,v13,l,(l.length:Int),0,o17,())=a0i (l0r self_q63z n kr) (fun(v12,v13,o17,_)=>kx (v12,((Ev.Term.mk o17.1.kind (Ev.Val.mk o17.1.v.kind o17.1.v.n o17.1.v.s o17.1.v.l) o17.1.name o17.1.a),()),())) 0 l (v12,v13,o17,()):=
 a0h l (fun i (v12,v13,o17,_)=>(v12,v13,l,(l.length:Int),i,o17,())) _ _ _ (fun rec i s=>rfl) hl fuel (v12,v13,o17,()) hf
def k1i(self_q63z:Ev.Term×(List (ByteArray×Bool))×Int×Unit→Option (Int×Unit))(n:Nat):Ev.Term×(List (ByteArray×Bool))×Int×Unit→Option (Int×Unit):=
 fun(a1,a2,a3,_)=>
 (bif decide ((a3:Int) >6)then some (2,())
 else
 (bif (a1.kind:Int)==1 then
 (bif (!(seq a1.name (⟨#[]⟩:ByteArray))) || (decide (((a1.a.length:Int):Int) >0))then some (6,())
 else
 (bif (a1.v.kind:Int)==4 then some (6,())
 else
 (q53z n ((Ev.Val.mk a1.v.kind a1.v.n a1.v.s a1.v.l),())).bind fun(y4,_)=>some (y4,())))
 else
 (bif (a1.kind:Int)==2 then
 (bif (!(((((a1.v.kind:Int)==0)&& ((a1.v.n:Int)==0))&& (seq a1.v.s (⟨#[]⟩:ByteArray)))&& (((a1.v.l.length:Int):Int)==0))) || (decide (((a1.a.length:Int):Int) >0))then some (6,())
 else
 (b0q n (a1.name,())).bind fun(y5,_)=>
 (bif !y5 then some (6,())
 else
 (bif !(d0v .str .bool a2 a1.name)then some (5,())
 else some (0,()))))
 else
 (bif (a1.kind:Int)==3 then
 (bif (!(((((a1.v.kind:Int)==0)&& ((a1.v.n:Int)==0))&& (seq a1.v.s (⟨#[]⟩:ByteArray)))&& (((a1.v.l.length:Int):Int)==0))) || (((a1.a.length:Int):Int) !=1)then some (6,())
 else
 (ix a1.a 0).bind fun x6=>
 (bif (x6.kind:Int) !=2 then some (6,())
 else
 (q60z n (a1.name,())).bind fun(y7,_)=>
 (bif !y7 then some (6,())
 else
 (ix a1.a 0).bind fun x8=>
 (self_q63z ((Ev.Term.mk x8.kind (Ev.Val.mk x8.v.kind x8.v.n x8.v.s x8.v.l) x8.name x8.a),a2,IntKind.wrap .i64 (a3+1),())).bind fun(y9,_)=>some (y9,()))))
 else
 (bif (a1.kind:Int)==4 then
 (q62z (a1.name,())).bind fun(y10,y11,_)=>
 (bif ((!y11) || (!(((((a1.v.kind:Int)==0)&& ((a1.v.n:Int)==0))&& (seq a1.v.s (⟨#[]⟩:ByteArray)))&& (((a1.v.l.length:Int):Int)==0)))) || ((decide ((y10:Int) ≥0))&& (((a1.a.length:Int):Int) !=y10))then some (6,())
 else
 (bif decide (((a1.a.length:Int):Int) >30)then some (2,())
 else
 a0k (fun rc28=>w0x self_q63z n rc28 (fun(v20,o21,_)=>
 (bif seq o21.1.name (⟨#[105,100]⟩:ByteArray)then
 (ix o21.1.a 0).bind fun x23=>
 (bif (x23.kind:Int) !=2 then some (3,())
 else
 (bif seq o21.1.name (⟨#[116,121,112,101]⟩:ByteArray)then
 (ix o21.1.a 0).bind fun x24=>
 (bif (x24.kind:Int) !=2 then some (3,())
 else
 (ix o21.1.a 0).bind fun x25=>
 (bif !(b0c .str .bool false v20 x25.name)then some (3,())
 else some (0,())))
 else some (0,())))
 else
 (bif seq o21.1.name (⟨#[116,121,112,101]⟩:ByteArray)then
 (ix o21.1.a 0).bind fun x26=>
 (bif (x26.kind:Int) !=2 then some (3,())
 else
 (ix o21.1.a 0).bind fun x27=>
 (bif !(b0c .str .bool false v20 x27.name)then some (3,())
 else some (0,())))
 else some (0,())))) (fun(v22,_)=>some (v22,()))) (n) (a2,a3,a1.a,(a1.a.length:Int),0,((Ev.Term.mk a1.kind (Ev.Val.mk a1.v.kind a1.v.n a1.v.s a1.v.l) a1.name a1.a),()),())))
 else some (6,()))))))
def q63z:Nat→Ev.Term×(List (ByteArray×Bool))×Int×Unit→Option (Int×Unit)
 | 0,_=>none
 | n+1,x=>k1i (q63z n) n x
def q61z(n:Nat):Ev.Term×(List (ByteArray×Bool))×Unit→Option (Int×Unit):=
 fun(a1,a2,_)=>
 (q63z n ((Ev.Term.mk a1.kind (Ev.Val.mk a1.v.kind a1.v.n a1.v.s a1.v.l) a1.name a1.a),a2,1,())).bind fun(y3,_)=>some (y3,())
def x0d{ρ:Type}(n:Nat)(rec:(List Ev.Dot)×Int×Int×(Ev.Query×Unit)×Unit→Option ρ)(kx:(Ev.Query×Unit)×Unit→Option ρ)(kr:Int×Unit→Option ρ):(List Ev.Dot)×Int×Int×(Ev.Query×Unit)×Unit→Option ρ:=
 fun(v2,v3,v4,o5,_)=>
 (bif decide ((v4:Int)<v3)then
 (ix v2 v4).bind fun x6=>
 (bif !(seq x6.name (⟨#[]⟩:ByteArray))then
 (b0q n (x6.name,())).bind fun(y7,_)=>
 (bif !y7 then kr (6,())
 else
 (bif !(seq x6.label (⟨#[]⟩:ByteArray))then
 (q60z n (x6.label,())).bind fun(y8,_)=>
 (bif !y8 then kr (6,())
 else rec (v2,v3,IntKind.wrap .i64 (v4+1),((Ev.Query.mk o5.1.dots o5.1.arrows o5.1.wher o5.1.items o5.1.dist),()),()))
 else rec (v2,v3,IntKind.wrap .i64 (v4+1),((Ev.Query.mk o5.1.dots o5.1.arrows o5.1.wher o5.1.items o5.1.dist),()),())))
 else
 (bif !(seq x6.label (⟨#[]⟩:ByteArray))then
 (q60z n (x6.label,())).bind fun(y9,_)=>
 (bif !y9 then kr (6,())
 else rec (v2,v3,IntKind.wrap .i64 (v4+1),((Ev.Query.mk o5.1.dots o5.1.arrows o5.1.wher o5.1.items o5.1.dist),()),()))
 else rec (v2,v3,IntKind.wrap .i64 (v4+1),((Ev.Query.mk o5.1.dots o5.1.arrows o5.1.wher o5.1.items o5.1.dist),()),())))
 else kx (((Ev.Query.mk o5.1.dots o5.1.arrows o5.1.wher o5.1.items o5.1.dist),()),()))
def w0y{ρ:Type}(n:Nat)(rec:(List Ev.Arrow)×Int×Int×(Ev.Query×Unit)×Unit→Option ρ)(kx:(Ev.Query×Unit)×Unit→Option ρ)(kr:Int×Unit→Option ρ):(List Ev.Arrow)×Int×Int×(Ev.Query×Unit)×Unit→Option ρ:=
 fun(v12,v13,v14,o15,_)=>
 (bif decide ((v14:Int)<v13)then
 (ix v12 v14).bind fun x16=>
 (bif !(seq x16.name (⟨#[]⟩:ByteArray))then
 (b0q n (x16.name,())).bind fun(y17,_)=>
 (bif (!y17) || x16.many then kr (6,())
 else
 (bif !(seq x16.type (⟨#[]⟩:ByteArray))then
 (q60z n (x16.type,())).bind fun(y18,_)=>
 (bif !y18 then kr (6,())
 else rec (v12,v13,IntKind.wrap .i64 (v14+1),((Ev.Query.mk o15.1.dots o15.1.arrows o15.1.wher o15.1.items o15.1.dist),()),()))
 else rec (v12,v13,IntKind.wrap .i64 (v14+1),((Ev.Query.mk o15.1.dots o15.1.arrows o15.1.wher o15.1.items o15.1.dist),()),())))
 else
 (bif !(seq x16.type (⟨#[]⟩:ByteArray))then
 (q60z n (x16.type,())).bind fun(y19,_)=>
 (bif !y19 then kr (6,())
 else rec (v12,v13,IntKind.wrap .i64 (v14+1),((Ev.Query.mk o15.1.dots o15.1.arrows o15.1.wher o15.1.items o15.1.dist),()),()))
 else rec (v12,v13,IntKind.wrap .i64 (v14+1),((Ev.Query.mk o15.1.dots o15.1.arrows o15.1.wher o15.1.items o15.1.dist),()),())))
 else kx (((Ev.Query.mk o15.1.dots o15.1.arrows o15.1.wher o15.1.items o15.1.dist),()),()))
def y0c{ρ:Type}(n:Nat)(rec:(List (ByteArray×Bool))×(List Ev.Term)×Int×Int×(Ev.Query×Unit)×Unit→Option ρ)(kx:(List (ByteArray×Bool))×(Ev.Query×Unit)×Unit→Option ρ)(kr:Int×Unit→Option ρ):(List (ByteArray×Bool))×(List Ev.Term)×Int×Int×(Ev.Query×Unit)×Unit→Option ρ:=
 fun(v24,v25,v26,v27,o28,_)=>
 (bif decide ((v27:Int)<v26)then
 (ix v25 v27).bind fun x29=>
 (q61z n ((Ev.Term.mk x29.kind (Ev.Val.mk x29.v.kind x29.v.n x29.v.s x29.v.l) x29.name x29.a),v24,())).bind fun(y30,_)=>
 (bif (y30:Int) !=0 then kr (y30,())
 else rec (v24,v25,v26,IntKind.wrap .i64 (v27+1),((Ev.Query.mk o28.1.dots o28.1.arrows o28.1.wher o28.1.items o28.1.dist),()),()))
 else kx (v24,((Ev.Query.mk o28.1.dots o28.1.arrows o28.1.wher o28.1.items o28.1.dist),()),()))
def w0o{ρ:Type}(n:Nat)(rec:(List (ByteArray×Bool))×(List Ev.Item)×Int×Int×(List (ByteArray×Bool))×Unit→Option ρ)(kx:Unit→Option ρ)(kr:Int×Unit→Option ρ):(List (ByteArray×Bool))×(List Ev.Item)×Int×Int×(List (ByteArray×Bool))×Unit→Option ρ:=
 fun(v34,v35,v36,v37,o38,_)=>
 (bif decide ((v37:Int)<v36)then
 (ix v35 v37).bind fun x39=>
 (b0q n (x39.name,())).bind fun(y40,_)=>
 (bif !y40 then kr (6,())
 else
 (q7z n (([(⟨#[]⟩:ByteArray),(⟨#[99,111,117,110,116]⟩:ByteArray),(⟨#[115,117,109]⟩:ByteArray),(⟨#[109,105,110]⟩:ByteArray),(⟨#[109,97,120]⟩:ByteArray)]:List ByteArray),x39.agg,())).bind fun(y41,_)=>
 (bif !y41 then kr (6,())
 else
 (bif (b0c .str .bool false o38 x39.name)then kr (7,())
 else
 (q61z n ((Ev.Term.mk x39.t.kind (Ev.Val.mk x39.t.v.kind x39.t.v.n x39.t.v.s x39.t.v.l) x39.t.name x39.t.a),v34,())).bind fun(y42,_)=>
 (bif (y42:Int) !=0 then kr (y42,())
 else rec (v34,v35,v36,IntKind.wrap .i64 (v37+1),b0s .str .bool o38 x39.name true,())))))
 else kx (()))
def r0s{ρ:Type}(n:Nat)(kr:Int×Unit→Option ρ):Int→Ev.Dot→((Ev.Query×Unit)×Unit)→(((Ev.Query×Unit)×Unit)→Option ρ)→Option ρ:=
 fun v4 x6 (o5,_) rec=>
 (bif !(seq x6.name (⟨#[]⟩:ByteArray))then
 (b0q n (x6.name,())).bind fun(y7,_)=>
 (bif !y7 then kr (6,())
 else
 (bif !(seq x6.label (⟨#[]⟩:ByteArray))then
 (q60z n (x6.label,())).bind fun(y8,_)=>
 (bif !y8 then kr (6,())
 else rec (((Ev.Query.mk o5.1.dots o5.1.arrows o5.1.wher o5.1.items o5.1.dist),()),()))
 else rec (((Ev.Query.mk o5.1.dots o5.1.arrows o5.1.wher o5.1.items o5.1.dist),()),())))
 else
 (bif !(seq x6.label (⟨#[]⟩:ByteArray))then
 (q60z n (x6.label,())).bind fun(y9,_)=>
 (bif !y9 then kr (6,())
 else rec (((Ev.Query.mk o5.1.dots o5.1.arrows o5.1.wher o5.1.items o5.1.dist),()),()))
 else rec (((Ev.Query.mk o5.1.dots o5.1.arrows o5.1.wher o5.1.items o5.1.dist),()),())))
theorem l0n{ρ:Type}(n:Nat)(kx:(Ev.Query×Unit)×Unit→Option ρ)(kr:Int×Unit→Option ρ)(l:List Ev.Dot)(fuel:Nat)(o5:Ev.Query×Unit)(hl:l.length≤9223372036854775807)(hf:l.length<fuel):
  a0k (fun rc=>x0d n rc kx kr) fuel (l,(l.length:Int),0,o5,())=a0i (r0s n kr) (fun(o5,_)=>kx (((Ev.Query.mk o5.1.dots o5.1.arrows o5.1.wher o5.1.items o5.1.dist),()),())) 0 l (o5,()):=
 a0h l (fun i (o5,_)=>(l,(l.length:Int),i,o5,())) _ _ _ (fun rec i s=>rfl) hl fuel (o5,()) hf
def s0k{ρ:Type}(n:Nat)(kr:Int×Unit→Option ρ):Int→Ev.Arrow→((Ev.Query×Unit)×Unit)→(((Ev.Query×Unit)×Unit)→Option ρ)→Option ρ:=
 fun v14 x16 (o15,_) rec=>
 (bif !(seq x16.name (⟨#[]⟩:ByteArray))then
 (b0q n (x16.name,())).bind fun(y17,_)=>
 (bif (!y17) || x16.many then kr (6,())
 else
 (bif !(seq x16.type (⟨#[]⟩:ByteArray))then
 (q60z n (x16.type,())).bind fun(y18,_)=>
 (bif !y18 then kr (6,())
 else rec (((Ev.Query.mk o15.1.dots o15.1.arrows o15.1.wher o15.1.items o15.1.dist),()),()))
 else rec (((Ev.Query.mk o15.1.dots o15.1.arrows o15.1.wher o15.1.items o15.1.dist),()),())))
 else
 (bif !(seq x16.type (⟨#[]⟩:ByteArray))then
 (q60z n (x16.type,())).bind fun(y19,_)=>
 (bif !y19 then kr (6,())
 else rec (((Ev.Query.mk o15.1.dots o15.1.arrows o15.1.wher o15.1.items o15.1.dist),()),()))
 else rec (((Ev.Query.mk o15.1.dots o15.1.arrows o15.1.wher o15.1.items o15.1.dist),()),())))
theorem k0g{ρ:Type}(n:Nat)(kx:(Ev.Query×Unit)×Unit→Option ρ)(kr:Int×Unit→Option ρ)(l:List Ev.Arrow)(fuel:Nat)(o15:Ev.Query×Unit)(hl:l.length≤9223372036854775807)(hf:l.length<fuel):
  a0k (fun rc=>w0y n rc kx kr) fuel (l,(l.length:Int),0,o15,())=a0i (s0k n kr) (fun(o15,_)=>kx (((Ev.Query.mk o15.1.dots o15.1.arrows o15.1.wher o15.1.items o15.1.dist),()),())) 0 l (o15,()):=
 a0h l (fun i (o15,_)=>(l,(l.length:Int),i,o15,())) _ _ _ (fun rec i s=>rfl) hl fuel (o15,()) hf
def s0t{ρ:Type}(n:Nat)(kr:Int×Unit→Option ρ):Int→Ev.Term→((List (ByteArray×Bool))×(Ev.Query×Unit)×Unit)→(((List (ByteArray×Bool))×(Ev.Query×Unit)×Unit)→Option ρ)→Option ρ:=
 fun v27 x29 (v24,o28,_) rec=>
 (q61z n ((Ev.Term.mk x29.kind (Ev.Val.mk x29.v.kind x29.v.n x29.v.s x29.v.l) x29.name x29.a),v24,())).bind fun(y30,_)=>
 (bif (y30:Int) !=0 then kr (y30,())
 else rec (v24,((Ev.Query.mk o28.1.dots o28.1.arrows o28.1.wher o28.1.items o28.1.dist),()),()))
theorem l0l{ρ:Type}(n:Nat)(kx:(List (ByteArray×Bool))×(Ev.Query×Unit)×Unit→Option ρ)(kr:Int×Unit→Option ρ)(l:List Ev.Term)(fuel:Nat)(v24:List (ByteArray×Bool))(o28:Ev.Query×Unit)(hl:l.length≤9223372036854775807)(hf:l.length<fuel):
  a0k (fun rc=>y0c n rc kx kr) fuel (v24,l,(l.length:Int),0,o28,())=a0i (s0t n kr) (fun(v24,o28,_)=>kx (v24,((Ev.Query.mk o28.1.dots o28.1.arrows o28.1.wher o28.1.items o28.1.dist),()),())) 0 l (v24,o28,()):=
 a0h l (fun i (v24,o28,_)=>(v24,l,(l.length:Int),i,o28,())) _ _ _ (fun rec i s=>rfl) hl fuel (v24,o28,()) hf
def p0e{ρ:Type}(n:Nat)(kr:Int×Unit→Option ρ):Int→Ev.Item→((List (ByteArray×Bool))×(List (ByteArray×Bool))×Unit)→(((List (ByteArray×Bool))×(List (ByteArray×Bool))×Unit)→Option ρ)→Option ρ:=
 fun v37 x39 (v34,o38,_) rec=>
 (b0q n (x39.name,())).bind fun(y40,_)=>
 (bif !y40 then kr (6,())
 else
 (q7z n (([(⟨#[]⟩:ByteArray),(⟨#[99,111,117,110,116]⟩:ByteArray),(⟨#[115,117,109]⟩:ByteArray),(⟨#[109,105,110]⟩:ByteArray),(⟨#[109,97,120]⟩:ByteArray)]:List ByteArray),x39.agg,())).bind fun(y41,_)=>
 (bif !y41 then kr (6,())
 else
 (bif (b0c .str .bool false o38 x39.name)then kr (7,())
 else
 (q61z n ((Ev.Term.mk x39.t.kind (Ev.Val.mk x39.t.v.kind x39.t.v.n x39.t.v.s x39.t.v.l) x39.t.name x39.t.a),v34,())).bind fun(y42,_)=>
 (bif (y42:Int) !=0 then kr (y42,())
 else rec (v34,b0s .str .bool o38 x39.name true,())))))
theorem l0y{ρ:Type}(n:Nat)(kx:Unit→Option ρ)(kr:Int×Unit→Option ρ)(l:List Ev.Item)(fuel:Nat)(v34:List (ByteArray×Bool))(o38:List (ByteArray×Bool))(hl:l.length≤9223372036854775807)(hf:l.length<fuel):
  a0k (fun rc=>w0o n rc kx kr) fuel (v34,l,(l.length:Int),0,o38,())=a0i (p0e n kr) (fun(v34,o38,_)=>kx (())) 0 l (v34,o38,()):=
 a0h l (fun i (v34,o38,_)=>(v34,l,(l.length:Int),i,o38,())) _ _ _ (fun rec i s=>rfl) hl fuel (v34,o38,()) hf
def q47z(n:Nat):Ev.Query×Unit→Option (Int×Unit):=
 fun(a1,_)=>
 (bif ((((decide (((a1.dots.length:Int):Int)<1)) || (decide (((a1.dots.length:Int):Int) >5))) || (decide (((a1.items.length:Int):Int)<1))) || (decide (((a1.items.length:Int):Int) >5))) || (decide (((a1.wher.length:Int):Int) >1))then some (2,())
 else
 (bif ((a1.arrows.length:Int):Int) !=(IntKind.wrap .i64 ((a1.dots.length:Int) - 1))then some (6,())
 else
 a0k (fun rc47=>x0d n rc47 (fun(o10,_)=>
 a0k (fun rc46=>w0y n rc46 (fun(o20,_)=>
 (q48z n ((Ev.Query.mk o20.1.dots o20.1.arrows o20.1.wher o20.1.items o20.1.dist),())).bind fun(y22,y23,_)=>
 (bif (y23:Int) !=0 then some (y23,())
 else
 a0k (fun rc45=>y0c n rc45 (fun(v31,o32,_)=>
 a0k (fun rc44=>w0o n rc44 (fun(_)=>some (0,())) (fun(v43,_)=>some (v43,()))) (n) (v31,o32.1.items,(o32.1.items.length:Int),0,([]:List (ByteArray×Bool)),())) (fun(v33,_)=>some (v33,()))) (n) (y22,o20.1.wher,(o20.1.wher.length:Int),0,((Ev.Query.mk o20.1.dots o20.1.arrows o20.1.wher o20.1.items o20.1.dist),()),()))) (fun(v21,_)=>some (v21,()))) (n) (o10.1.arrows,(o10.1.arrows.length:Int),0,((Ev.Query.mk o10.1.dots o10.1.arrows o10.1.wher o10.1.items o10.1.dist),()),())) (fun(v11,_)=>some (v11,()))) (n) (a1.dots,(a1.dots.length:Int),0,((Ev.Query.mk a1.dots a1.arrows a1.wher a1.items a1.dist),()),())))
def w0s{ρ:Type}(n:Nat)(rec:(List ByteArray)×(List ByteArray)×Int×Int×Unit→Option ρ)(kx:Unit→Option ρ)(kr:Int×Unit→Option ρ):(List ByteArray)×(List ByteArray)×Int×Int×Unit→Option ρ:=
 fun(v2,v3,v4,v5,_)=>
 (bif decide ((v5:Int)<v4)then
 (ix v3 v5).bind fun x6=>
 (q60z n (x6,())).bind fun(y7,_)=>
 (bif !y7 then kr (6,())
 else
 (bif decide ((v5:Int) >0)then
 (ix v2 (IntKind.wrap .i64 (v5 - 1))).bind fun x8=>
 (bif !(f0r x8 x6)then kr (6,())
 else rec (v2,v3,v4,IntKind.wrap .i64 (v5+1),()))
 else rec (v2,v3,v4,IntKind.wrap .i64 (v5+1),())))
 else kx (()))
def q1g{ρ:Type}(n:Nat)(kr:Int×Unit→Option ρ):Int→ByteArray→((List ByteArray)×Unit)→(((List ByteArray)×Unit)→Option ρ)→Option ρ:=
 fun v5 x6 (v2,_) rec=>
 (q60z n (x6,())).bind fun(y7,_)=>
 (bif !y7 then kr (6,())
 else
 (bif decide ((v5:Int) >0)then
 (ix v2 (IntKind.wrap .i64 (v5 - 1))).bind fun x8=>
 (bif !(f0r x8 x6)then kr (6,())
 else rec (v2,()))
 else rec (v2,())))
theorem s0w{ρ:Type}(n:Nat)(kx:Unit→Option ρ)(kr:Int×Unit→Option ρ)(l:List ByteArray)(fuel:Nat)(v2:List ByteArray)(hl:l.length≤9223372036854775807)(hf:l.length<fuel):
  a0k (fun rc=>w0s n rc kx kr) fuel (v2,l,(l.length:Int),0,())=a0i (q1g n kr) (fun(v2,_)=>kx (())) 0 l (v2,()):=
 a0h l (fun i (v2,_)=>(v2,l,(l.length:Int),i,())) _ _ _ (fun rec i s=>rfl) hl fuel (v2,()) hf
def q42z(n:Nat):(List ByteArray)×Unit→Option (Int×Unit):=
 fun(a1,_)=>
 (bif decide (((a1.length:Int):Int) >4)then some (2,())
 else
 a0k (fun rc10=>w0s n rc10 (fun(_)=>some (0,())) (fun(v9,_)=>some (v9,()))) (n) (a1,a1,(a1.length:Int),0,()))
def y0l{ρ:Type}(n:Nat)(rec:(List Ev.Prp)×(List Ev.Prp)×Int×Int×Unit→Option ρ)(kx:Unit→Option ρ)(kr:Int×Unit→Option ρ):(List Ev.Prp)×(List Ev.Prp)×Int×Int×Unit→Option ρ:=
 fun(v2,v3,v4,v5,_)=>
 (bif decide ((v5:Int)<v4)then
 (ix v3 v5).bind fun x6=>
 (q60z n (x6.name,())).bind fun(y8,_)=>
 (bif !y8 then kr (6,())
 else
 (bif decide ((v5:Int) >0)then
 (ix v2 (IntKind.wrap .i64 (v5 - 1))).bind fun x9=>
 (bif (!(f0r x9.name x6.name)) || ((x6.val.kind:Int)==0)then kr (6,())
 else
 (q53z n ((Ev.Val.mk x6.val.kind x6.val.n x6.val.s x6.val.l),())).bind fun(y10,_)=>
 (bif (y10:Int) !=0 then kr (y10,())
 else rec (v2,v3,v4,IntKind.wrap .i64 (v5+1),())))
 else
 (bif (x6.val.kind:Int)==0 then kr (6,())
 else
 (q53z n ((Ev.Val.mk x6.val.kind x6.val.n x6.val.s x6.val.l),())).bind fun(y11,_)=>
 (bif (y11:Int) !=0 then kr (y11,())
 else rec (v2,v3,v4,IntKind.wrap .i64 (v5+1),())))))
 else kx (()))
def y1d{ρ:Type}(n:Nat)(kr:Int×Unit→Option ρ):Int→Ev.Prp→((List Ev.Prp)×Unit)→(((List Ev.Prp)×Unit)→Option ρ)→Option ρ:=
 fun v5 x6 (v2,_) rec=>
 (q60z n (x6.name,())).bind fun(y8,_)=>
 (bif !y8 then kr (6,())
 else
 (bif decide ((v5:Int) >0)then
 (ix v2 (IntKind.wrap .i64 (v5 - 1))).bind fun x9=>
 (bif (!(f0r x9.name x6.name)) || ((x6.val.kind:Int)==0)then kr (6,())
 else
 (q53z n ((Ev.Val.mk x6.val.kind x6.val.n x6.val.s x6.val.l),())).bind fun(y10,_)=>
 (bif (y10:Int) !=0 then kr (y10,())
 else rec (v2,())))
 else
 (bif (x6.val.kind:Int)==0 then kr (6,())
 else
 (q53z n ((Ev.Val.mk x6.val.kind x6.val.n x6.val.s x6.val.l),())).bind fun(y11,_)=>
 (bif (y11:Int) !=0 then kr (y11,())
 else rec (v2,())))))
theorem s0n{ρ:Type}(n:Nat)(kx:Unit→Option ρ)(kr:Int×Unit→Option ρ)(l:List Ev.Prp)(fuel:Nat)(v2:List Ev.Prp)(hl:l.length≤9223372036854775807)(hf:l.length<fuel):
  a0k (fun rc=>y0l n rc kx kr) fuel (v2,l,(l.length:Int),0,())=a0i (y1d n kr) (fun(v2,_)=>kx (())) 0 l (v2,()):=
 a0h l (fun i (v2,_)=>(v2,l,(l.length:Int),i,())) _ _ _ (fun rec i s=>rfl) hl fuel (v2,()) hf
def q45z(n:Nat):(List Ev.Prp)×Unit→Option (Int×Unit):=
 fun(a1,_)=>
 (bif decide (((a1.length:Int):Int) >6)then some (2,())
 else
 a0k (fun rc13=>y0l n rc13 (fun(_)=>some (0,())) (fun(v12,_)=>some (v12,()))) (n) (a1,a1,(a1.length:Int),0,()))
def g0x{ρ:Type}(n:Nat)(rec:Int×(List Int)×Int×Int×Unit→Option ρ)(kx:Int×Unit→Option ρ)(kr:Int×Unit→Option ρ):Int×(List Int)×Int×Int×Unit→Option ρ:=
 fun(v2,v3,v4,v5,_)=>
 (bif decide ((v5:Int)<v4)then
 (ix v3 v5).bind fun x6=>
 (bif (x6:Int) !=v2 then kr (x6,())
 else rec (v2,v3,v4,IntKind.wrap .i64 (v5+1),()))
 else kx (v2,()))
def z1r{ρ:Type}(n:Nat)(kr:Int×Unit→Option ρ):Int→Int→(Int×Unit)→((Int×Unit)→Option ρ)→Option ρ:=
 fun v5 x6 (v2,_) rec=>
 (bif (x6:Int) !=v2 then kr (x6,())
 else rec (v2,()))
theorem p0s{ρ:Type}(n:Nat)(kx:Int×Unit→Option ρ)(kr:Int×Unit→Option ρ)(l:List Int)(fuel:Nat)(v2:Int)(hl:l.length≤9223372036854775807)(hf:l.length<fuel):
  a0k (fun rc=>g0x n rc kx kr) fuel (v2,l,(l.length:Int),0,())=a0i (z1r n kr) (fun(v2,_)=>kx (v2,())) 0 l (v2,()):=
 a0h l (fun i (v2,_)=>(v2,l,(l.length:Int),i,())) _ _ _ (fun rec i s=>rfl) hl fuel (v2,()) hf
def q21z(n:Nat):(List Int)×Unit→Option (Int×Unit):=
 fun(a1,_)=>
 a0k (fun rc9=>g0x n rc9 (fun(v7,_)=>some (v7,())) (fun(v8,_)=>some (v8,()))) (n) (0,a1,(a1.length:Int),0,())
def q38z:Int×Unit→Option (Bool×Unit):=
 fun(a1,_)=>some ((a1:Int) !=a1,())
def q25z:Int×Int×Unit→Option (Int×Unit):=
 fun(a1,a2,_)=>
 (q38z (a1,())).bind fun(y3,_)=>
 (q38z (a2,())).bind fun(y4,_)=>
 (bif y3 then
 (bif y4 then some (0,())
 else some ((-1),()))
 else
 (bif y4 then some (1,())
 else
 (bif decide ((a1:Int)<a2)then some ((-1),())
 else
 (bif decide ((a1:Int) >a2)then some (1,())
 else some (0,())))))
def q41z:Ev.Node×Int×Unit→Option (Int×Unit):=
 fun(a1,a2,_)=>
 (q25z (a1.id,a2,())).bind fun(y3,_)=>some (y3,())
def j1p{ρ:Type}(n:Nat)(rec:(List Ev.Node)×Int×Int×Int×Int×Unit→Option ρ)(kx:(List Ev.Node)×Int×Int×Int×Unit→Option ρ)(kr:Unit→Option ρ):(List Ev.Node)×Int×Int×Int×Int×Unit→Option ρ:=
 fun(v3,v4,v5,v6,v7,_)=>
 (bif decide ((v6:Int)<v7)then
 (ix v3 (IntKind.wrap .i64 (bshr .u64 (IntKind.wrap .u64 (IntKind.wrap .i64 (v6+v7))) 1))).bind fun x8=>
 (q41z ((Ev.Node.mk x8.id x8.labels x8.props),v4,())).bind fun(y9,_)=>
 (bif decide ((y9:Int)<0)then rec (v3,v4,v5,IntKind.wrap .i64 ((IntKind.wrap .i64 (bshr .u64 (IntKind.wrap .u64 (IntKind.wrap .i64 (v6+v7))) 1))+1),v7,())
 else rec (v3,v4,v5,v6,IntKind.wrap .i64 (bshr .u64 (IntKind.wrap .u64 (IntKind.wrap .i64 (v6+v7))) 1),()))
 else kx (v3,v4,v5,v6,()))
def q2z(n:Nat):(List Ev.Node)×Int×Unit→Option (Int×Bool×Unit):=
 fun(a1,a2,_)=>
 a0k (fun rc16=>j1p n rc16 (fun(v10,v11,v12,v13,_)=>
 (bif decide ((v13:Int)<v12)then
 (ix v10 v13).bind fun x14=>
 (q41z ((Ev.Node.mk x14.id x14.labels x14.props),v11,())).bind fun(y15,_)=>some (v13,(y15:Int)==0,())
 else some (v13,false,()))) (fun(_)=>none)) (n) (a1,a2,(a1.length:Int),0,(a1.length:Int),())
def q59z(n:Nat):Ev.Graph×Int×Unit→Option (Int×Unit):=
 fun(a1,a2,_)=>
 (q2z n (a1.nodes,a2,())).bind fun(y3,y4,_)=>
 (bif !y4 then some ((-1),())
 else some (y3,()))
def x0a{ρ:Type}(n:Nat)(rec:Int×(List Ev.Node)×Int×Int×(Ev.Graph×Unit)×Unit→Option ρ)(kx:Int×(Ev.Graph×Unit)×Unit→Option ρ)(kr:Int×Unit→Option ρ):Int×(List Ev.Node)×Int×Int×(Ev.Graph×Unit)×Unit→Option ρ:=
 fun(v2,v3,v4,v5,o6,_)=>
 (bif decide ((v5:Int)<v4)then
 (ix v3 v5).bind fun x7=>
 (bif decide ((x7.id:Int)≤v2)then kr (6,())
 else
 (q42z n (x7.labels,())).bind fun(y8,_)=>
 (q45z n (x7.props,())).bind fun(y9,_)=>
 (q21z n (([y8,y9]:List Int),())).bind fun(y10,_)=>
 (bif (y10:Int) !=0 then kr (y10,())
 else rec (x7.id,v3,v4,IntKind.wrap .i64 (v5+1),((Ev.Graph.mk o6.1.nodes o6.1.edges o6.1.next),()),())))
 else kx (v2,((Ev.Graph.mk o6.1.nodes o6.1.edges o6.1.next),()),()))
def w0z{ρ:Type}(n:Nat)(rec:Int×Int×(List Ev.Edg)×Int×Int×(Ev.Graph×Unit)×Unit→Option ρ)(kx:Int×Int×(Ev.Graph×Unit)×Unit→Option ρ)(kr:Int×Unit→Option ρ):Int×Int×(List Ev.Edg)×Int×Int×(Ev.Graph×Unit)×Unit→Option ρ:=
 fun(v14,v15,v16,v17,v18,o19,_)=>
 (bif decide ((v18:Int)<v17)then
 (ix v16 v18).bind fun x20=>
 (bif decide ((x20.id:Int)≤v14)then kr (6,())
 else
 (q59z n ((Ev.Graph.mk o19.1.nodes o19.1.edges o19.1.next),x20.id,())).bind fun(y21,_)=>
 (bif decide ((y21:Int) ≥0)then kr (6,())
 else
 (q60z n (x20.type,())).bind fun(y22,_)=>
 (bif !y22 then kr (6,())
 else
 (q59z n ((Ev.Graph.mk o19.1.nodes o19.1.edges o19.1.next),x20.src,())).bind fun(y23,_)=>
 (bif decide ((y23:Int)<0)then kr (5,())
 else
 (q59z n ((Ev.Graph.mk o19.1.nodes o19.1.edges o19.1.next),x20.dst,())).bind fun(y24,_)=>
 (bif decide ((y24:Int)<0)then kr (5,())
 else
 (q45z n (x20.props,())).bind fun(y25,_)=>
 (bif (y25:Int) !=0 then kr (y25,())
 else rec (x20.id,v15,v16,v17,IntKind.wrap .i64 (v18+1),((Ev.Graph.mk o19.1.nodes o19.1.edges o19.1.next),()),())))))))
 else kx (v14,v15,((Ev.Graph.mk o19.1.nodes o19.1.edges o19.1.next),()),()))
def q1b{ρ:Type}(n:Nat)(kr:Int×Unit→Option ρ):Int→Ev.Node→(Int×(Ev.Graph×Unit)×Unit)→((Int×(Ev.Graph×Unit)×Unit)→Option ρ)→Option ρ:=
 fun v5 x7 (v2,o6,_) rec=>
 (bif decide ((x7.id:Int)≤v2)then kr (6,())
 else
 (q42z n (x7.labels,())).bind fun(y8,_)=>
 (q45z n (x7.props,())).bind fun(y9,_)=>
 (q21z n (([y8,y9]:List Int),())).bind fun(y10,_)=>
 (bif (y10:Int) !=0 then kr (y10,())
 else rec (x7.id,((Ev.Graph.mk o6.1.nodes o6.1.edges o6.1.next),()),())))
theorem r0u{ρ:Type}(n:Nat)(kx:Int×(Ev.Graph×Unit)×Unit→Option ρ)(kr:Int×Unit→Option ρ)(l:List Ev.Node)(fuel:Nat)(v2:Int)(o6:Ev.Graph×Unit)(hl:l.length≤9223372036854775807)(hf:l.length<fuel):
  a0k (fun rc=>x0a n rc kx kr) fuel (v2,l,(l.length:Int),0,o6,())=a0i (q1b n kr) (fun(v2,o6,_)=>kx (v2,((Ev.Graph.mk o6.1.nodes o6.1.edges o6.1.next),()),())) 0 l (v2,o6,()):=
 a0h l (fun i (v2,o6,_)=>(v2,l,(l.length:Int),i,o6,())) _ _ _ (fun rec i s=>rfl) hl fuel (v2,o6,()) hf
def o1y{ρ:Type}(n:Nat)(kr:Int×Unit→Option ρ):Int→Ev.Edg→(Int×Int×(Ev.Graph×Unit)×Unit)→((Int×Int×(Ev.Graph×Unit)×Unit)→Option ρ)→Option ρ:=
 fun v18 x20 (v14,v15,o19,_) rec=>
 (bif decide ((x20.id:Int)≤v14)then kr (6,())
 else
 (q59z n ((Ev.Graph.mk o19.1.nodes o19.1.edges o19.1.next),x20.id,())).bind fun(y21,_)=>
 (bif decide ((y21:Int) ≥0)then kr (6,())
 else
 (q60z n (x20.type,())).bind fun(y22,_)=>
 (bif !y22 then kr (6,())
 else
 (q59z n ((Ev.Graph.mk o19.1.nodes o19.1.edges o19.1.next),x20.src,())).bind fun(y23,_)=>
 (bif decide ((y23:Int)<0)then kr (5,())
 else
 (q59z n ((Ev.Graph.mk o19.1.nodes o19.1.edges o19.1.next),x20.dst,())).bind fun(y24,_)=>
 (bif decide ((y24:Int)<0)then kr (5,())
 else
 (q45z n (x20.props,())).bind fun(y25,_)=>
 (bif (y25:Int) !=0 then kr (y25,())
 else rec (x20.id,v15,((Ev.Graph.mk o19.1.nodes o19.1.edges o19.1.next),()),())))))))
theorem q0b{ρ:Type}(n:Nat)(kx:Int×Int×(Ev.Graph×Unit)×Unit→Option ρ)(kr:Int×Unit→Option ρ)(l:List Ev.Edg)(fuel:Nat)(v14:Int)(v15:Int)(o19:Ev.Graph×Unit)(hl:l.length≤9223372036854775807)(hf:l.length<fuel):
  a0k (fun rc=>w0z n rc kx kr) fuel (v14,v15,l,(l.length:Int),0,o19,())=a0i (o1y n kr) (fun(v14,v15,o19,_)=>kx (v14,v15,((Ev.Graph.mk o19.1.nodes o19.1.edges o19.1.next),()),())) 0 l (v14,v15,o19,()):=
 a0h l (fun i (v14,v15,o19,_)=>(v14,v15,l,(l.length:Int),i,o19,())) _ _ _ (fun rec i s=>rfl) hl fuel (v14,v15,o19,()) hf
def q44z(n:Nat):Ev.Graph×Unit→Option (Int×Unit):=
 fun(a1,_)=>
 (bif (decide (((a1.nodes.length:Int):Int) >40)) || (decide (((a1.edges.length:Int):Int) >60))then some (2,())
 else
 a0k (fun rc31=>x0a n rc31 (fun(v11,o12,_)=>
 a0k (fun rc30=>w0z n rc30 (fun(v26,v27,o28,_)=>
 (bif (decide ((o28.1.next:Int)≤(if v26>v27 then v26 else v27))) || (decide ((o28.1.next:Int) >1099511627776))then some (9,())
 else some (0,()))) (fun(v29,_)=>some (v29,()))) (n) (0,v11,o12.1.edges,(o12.1.edges.length:Int),0,((Ev.Graph.mk o12.1.nodes o12.1.edges o12.1.next),()),())) (fun(v13,_)=>some (v13,()))) (n) (0,a1.nodes,(a1.nodes.length:Int),0,((Ev.Graph.mk a1.nodes a1.edges a1.next),()),()))
def q10z:(List Int)×Unit→Option ((List Int)×Unit):=
 fun(a1,_)=>
 nilq a1 (some (([]:List Int),())) (
 ck (room (([]:List Int)++a1).length 8) (some (([]:List Int)++a1,())))
def d0r{ρ:Type}(n:Nat)(rec:(List (Int×(List Int)))×(List Ev.Node)×Int×Int×(Ev.Node×Unit)×(List (Ev.Pair×Bool))×(List Int)×Unit→Option ρ)(kx:(List (Int×(List Int)))×(List Ev.Node)×Int×Int×(List (Ev.Pair×Bool))×Unit→Option ρ)(kr:Unit→Option ρ):(List (Int×(List Int)))×(List Ev.Node)×Int×Int×(Ev.Node×Unit)×(List (Ev.Pair×Bool))×(List Int)×Unit→Option ρ:=
 fun(v11,v12,v13,v14,o15,o16,o17,_)=>
 (bif decide (((o17.length:Int):Int) >0)then
 (ix o17 (IntKind.wrap .i64 ((o17.length:Int) - 1))).bind fun _=>
 ((o17)[(IntKind.wrap .i64 ((o17.length:Int) - 1):Int).toNat]?).bind fun e18=>
 (cut? o17 (IntKind.wrap .i64 ((o17.length:Int) - 1))).bind fun r19=>
 (bif !(b0c .pair .bool false o16 (Ev.Pair.mk o15.1.id e18))then
 ck (room (r19++(b0c .i64 (.lst .i64) ([]:List Int) v11 e18)).length 8) (rec (v11,v12,v13,v14,((Ev.Node.mk o15.1.id o15.1.labels o15.1.props),()),b0s .pair .bool o16 (Ev.Pair.mk o15.1.id e18) true,r19++(b0c .i64 (.lst .i64) ([]:List Int) v11 e18),()))
 else rec (v11,v12,v13,v14,((Ev.Node.mk o15.1.id o15.1.labels o15.1.props),()),o16,r19,()))
 else kx (v11,v12,v13,v14,o16,()))
def b0x{ρ:Type}(n:Nat)(rec:(List (Int×(List Int)))×(List Ev.Node)×Int×Int×(List (Ev.Pair×Bool))×Unit→Option ρ)(kx:(List (Ev.Pair×Bool))×Unit→Option ρ)(kr:Unit→Option ρ):(List (Int×(List Int)))×(List Ev.Node)×Int×Int×(List (Ev.Pair×Bool))×Unit→Option ρ:=
 fun(v4,v5,v6,v7,o8,_)=>
 (bif decide ((v7:Int)<v6)then
 (ix v5 v7).bind fun x9=>
 (q10z ((b0c .i64 (.lst .i64) ([]:List Int) v4 x9.id),())).bind fun(o10,_)=>
 a0k (fun rc25=>d0r n rc25 (fun(v20,v21,v22,v23,o24,_)=>rec (v20,v21,v22,IntKind.wrap .i64 (v23+1),o24,())) (fun(_)=>none)) (n) (v4,v5,v6,v7,((Ev.Node.mk x9.id x9.labels x9.props),()),o8,o10,())
 else kx (o8,()))
def c0t(n:Nat):Ev.Graph×ByteArray×Unit→Option ((List (Ev.Pair×Bool))×Unit):=
 fun(a1,a2,_)=>
 (o1w ((Ev.Graph.mk a1.nodes a1.edges a1.next),a2,())).bind fun(y3,_)=>
 a0k (fun rc27=>b0x n rc27 (fun(o26,_)=>some (o26,())) (fun(_)=>none)) (n) (y3,a1.nodes,(a1.nodes.length:Int),0,([]:List (Ev.Pair×Bool)),())
def f0c{ρ:Type}(n:Nat)(rec:(List Ev.Arrow)×Int×Int×(Ev.Graph×Unit)×(Ev.Query×Ev.Graph×Unit)×(List (List (Ev.Pair×Bool)))×Unit→Option ρ)(kx:(Ev.Query×Ev.Graph×Unit)×(List (List (Ev.Pair×Bool)))×Unit→Option ρ)(kr:Unit→Option ρ):(List Ev.Arrow)×Int×Int×(Ev.Graph×Unit)×(Ev.Query×Ev.Graph×Unit)×(List (List (Ev.Pair×Bool)))×Unit→Option ρ:=
 fun(v3,v4,v5,o6,o7,o8,_)=>
 (bif decide ((v5:Int)<v4)then
 (ix v3 v5).bind fun x9=>
 (bif x9.many then
 (c0t n ((Ev.Graph.mk o6.1.nodes o6.1.edges o6.1.next),x9.type,())).bind fun(y10,_)=>
 ck (room (o8++([y10]:List (List (Ev.Pair×Bool)))).length 8) (rec (v3,v4,IntKind.wrap .i64 (v5+1),((Ev.Graph.mk o6.1.nodes o6.1.edges o6.1.next),()),((Ev.Query.mk o7.1.dots o7.1.arrows o7.1.wher o7.1.items o7.1.dist),(Ev.Graph.mk o7.2.1.nodes o7.2.1.edges o7.2.1.next),()),o8++([y10]:List (List (Ev.Pair×Bool))),()))
 else
 ck (room (o8++([([]:List (Ev.Pair×Bool))]:List (List (Ev.Pair×Bool)))).length 8) (rec (v3,v4,IntKind.wrap .i64 (v5+1),((Ev.Graph.mk o6.1.nodes o6.1.edges o6.1.next),()),((Ev.Query.mk o7.1.dots o7.1.arrows o7.1.wher o7.1.items o7.1.dist),(Ev.Graph.mk o7.2.1.nodes o7.2.1.edges o7.2.1.next),()),o8++([([]:List (Ev.Pair×Bool))]:List (List (Ev.Pair×Bool))),())))
 else kx (((Ev.Query.mk o7.1.dots o7.1.arrows o7.1.wher o7.1.items o7.1.dist),(Ev.Graph.mk o7.2.1.nodes o7.2.1.edges o7.2.1.next),()),o8,()))
def f0i{ρ:Type}(n:Nat)(kr:Unit→Option ρ):Int→Ev.Arrow→((Ev.Graph×Unit)×(Ev.Query×Ev.Graph×Unit)×(List (List (Ev.Pair×Bool)))×Unit)→(((Ev.Graph×Unit)×(Ev.Query×Ev.Graph×Unit)×(List (List (Ev.Pair×Bool)))×Unit)→Option ρ)→Option ρ:=
 fun v5 x9 (o6,o7,o8,_) rec=>
 (bif x9.many then
 (c0t n ((Ev.Graph.mk o6.1.nodes o6.1.edges o6.1.next),x9.type,())).bind fun(y10,_)=>
 ck (room (o8++([y10]:List (List (Ev.Pair×Bool)))).length 8) (rec (((Ev.Graph.mk o6.1.nodes o6.1.edges o6.1.next),()),((Ev.Query.mk o7.1.dots o7.1.arrows o7.1.wher o7.1.items o7.1.dist),(Ev.Graph.mk o7.2.1.nodes o7.2.1.edges o7.2.1.next),()),o8++([y10]:List (List (Ev.Pair×Bool))),()))
 else
 ck (room (o8++([([]:List (Ev.Pair×Bool))]:List (List (Ev.Pair×Bool)))).length 8) (rec (((Ev.Graph.mk o6.1.nodes o6.1.edges o6.1.next),()),((Ev.Query.mk o7.1.dots o7.1.arrows o7.1.wher o7.1.items o7.1.dist),(Ev.Graph.mk o7.2.1.nodes o7.2.1.edges o7.2.1.next),()),o8++([([]:List (Ev.Pair×Bool))]:List (List (Ev.Pair×Bool))),())))
theorem d0m{ρ:Type}(n:Nat)(kx:(Ev.Query×Ev.Graph×Unit)×(List (List (Ev.Pair×Bool)))×Unit→Option ρ)(kr:Unit→Option ρ)(l:List Ev.Arrow)(fuel:Nat)(o6:Ev.Graph×Unit)(o7:Ev.Query×Ev.Graph×Unit)(o8:List (List (Ev.Pair×Bool)))(hl:l.length≤9223372036854775807)(hf:l.length<fuel):
  a0k (fun rc=>f0c n rc kx kr) fuel (l,(l.length:Int),0,o6,o7,o8,())=a0i (f0i n kr) (fun(o6,o7,o8,_)=>kx (((Ev.Query.mk o7.1.dots o7.1.arrows o7.1.wher o7.1.items o7.1.dist),(Ev.Graph.mk o7.2.1.nodes o7.2.1.edges o7.2.1.next),()),o8,())) 0 l (o6,o7,o8,()):=
 a0h l (fun i (o6,o7,o8,_)=>(l,(l.length:Int),i,o6,o7,o8,())) _ _ _ (fun rec i s=>rfl) hl fuel (o6,o7,o8,()) hf
def f0j(n:Nat):Ev.Query×Ev.Graph×Unit→Option ((Ev.Query×Ev.Graph×(List (List (Ev.Pair×Bool)))×Unit)×Unit):=
 fun(a1,a2,_)=>
 a0k (fun rc13=>f0c n rc13 (fun(o11,o12,_)=>some (((Ev.Query.mk o11.1.dots o11.1.arrows o11.1.wher o11.1.items o11.1.dist),(Ev.Graph.mk o11.2.1.nodes o11.2.1.edges o11.2.1.next),o12,()),())) (fun(_)=>none)) (n) (a1.arrows,(a1.arrows.length:Int),0,((Ev.Graph.mk a2.nodes a2.edges a2.next),()),((Ev.Query.mk a1.dots a1.arrows a1.wher a1.items a1.dist),(Ev.Graph.mk a2.nodes a2.edges a2.next),()),([]:List (List (Ev.Pair×Bool))),())
def w0p{ρ:Type}(n:Nat)(rec:(List Ev.Dot)×Int×Int×(Ev.Envr×Unit)×(List (ByteArray×Int))×(Ev.Query×Ev.Graph×(List (List (Ev.Pair×Bool)))×Unit)×(List Int)×Unit→Option ρ)(kx:(Ev.Envr×Unit)×(List (ByteArray×Int))×(Ev.Query×Ev.Graph×(List (List (Ev.Pair×Bool)))×Unit)×(List Int)×Unit→Option ρ)(kr:Unit→Option ρ):(List Ev.Dot)×Int×Int×(Ev.Envr×Unit)×(List (ByteArray×Int))×(Ev.Query×Ev.Graph×(List (List (Ev.Pair×Bool)))×Unit)×(List Int)×Unit→Option ρ:=
 fun(v3,v4,v5,o6,o7,o8,o9,_)=>
 (bif decide ((v5:Int)<v4)then
 (ix v3 v5).bind fun x10=>
 (bif !(seq x10.name (⟨#[]⟩:ByteArray))then
 (ix o9 v5).bind fun _=>
 ((o9)[(v5:Int).toNat]?).bind fun e11=>
 (bif (e11:Int) !=0 then
 (ix o9 v5).bind fun _=>
 ((o9)[(v5:Int).toNat]?).bind fun e13=>rec (v3,v4,IntKind.wrap .i64 (v5+1),((Ev.Envr.mk (Ev.Graph.mk o6.1.g.nodes o6.1.g.edges o6.1.g.next) o6.1.at_),()),b0s .str .i64 o7 x10.name e13,((Ev.Query.mk o8.1.dots o8.1.arrows o8.1.wher o8.1.items o8.1.dist),(Ev.Graph.mk o8.2.1.nodes o8.2.1.edges o8.2.1.next),o8.2.2.1,()),o9,())
 else rec (v3,v4,IntKind.wrap .i64 (v5+1),((Ev.Envr.mk (Ev.Graph.mk o6.1.g.nodes o6.1.g.edges o6.1.g.next) o6.1.at_),()),o7,((Ev.Query.mk o8.1.dots o8.1.arrows o8.1.wher o8.1.items o8.1.dist),(Ev.Graph.mk o8.2.1.nodes o8.2.1.edges o8.2.1.next),o8.2.2.1,()),o9,()))
 else rec (v3,v4,IntKind.wrap .i64 (v5+1),((Ev.Envr.mk (Ev.Graph.mk o6.1.g.nodes o6.1.g.edges o6.1.g.next) o6.1.at_),()),o7,((Ev.Query.mk o8.1.dots o8.1.arrows o8.1.wher o8.1.items o8.1.dist),(Ev.Graph.mk o8.2.1.nodes o8.2.1.edges o8.2.1.next),o8.2.2.1,()),o9,()))
 else kx (((Ev.Envr.mk (Ev.Graph.mk o6.1.g.nodes o6.1.g.edges o6.1.g.next) o6.1.at_),()),o7,((Ev.Query.mk o8.1.dots o8.1.arrows o8.1.wher o8.1.items o8.1.dist),(Ev.Graph.mk o8.2.1.nodes o8.2.1.edges o8.2.1.next),o8.2.2.1,()),o9,()))
def x0r{ρ:Type}(n:Nat)(rec:(List Ev.Arrow)×Int×Int×(Ev.Envr×Unit)×(List (ByteArray×Int))×(Ev.Query×Ev.Graph×(List (List (Ev.Pair×Bool)))×Unit)×(List Int)×Unit→Option ρ)(kx:(Ev.Envr×Unit)×(List (ByteArray×Int))×(Ev.Query×Ev.Graph×(List (List (Ev.Pair×Bool)))×Unit)×(List Int)×Unit→Option ρ)(kr:Unit→Option ρ):(List Ev.Arrow)×Int×Int×(Ev.Envr×Unit)×(List (ByteArray×Int))×(Ev.Query×Ev.Graph×(List (List (Ev.Pair×Bool)))×Unit)×(List Int)×Unit→Option ρ:=
 fun(v18,v19,v20,o21,o22,o23,o24,_)=>
 (bif decide ((v20:Int)<v19)then
 (ix v18 v20).bind fun x25=>
 (bif !(seq x25.name (⟨#[]⟩:ByteArray))then
 (ix o24 (IntKind.wrap .i64 ((o23.1.dots.length:Int)+v20))).bind fun _=>
 ((o24)[(IntKind.wrap .i64 ((o23.1.dots.length:Int)+v20):Int).toNat]?).bind fun e27=>rec (v18,v19,IntKind.wrap .i64 (v20+1),((Ev.Envr.mk (Ev.Graph.mk o21.1.g.nodes o21.1.g.edges o21.1.g.next) o21.1.at_),()),b0s .str .i64 o22 x25.name e27,((Ev.Query.mk o23.1.dots o23.1.arrows o23.1.wher o23.1.items o23.1.dist),(Ev.Graph.mk o23.2.1.nodes o23.2.1.edges o23.2.1.next),o23.2.2.1,()),o24,())
 else rec (v18,v19,IntKind.wrap .i64 (v20+1),((Ev.Envr.mk (Ev.Graph.mk o21.1.g.nodes o21.1.g.edges o21.1.g.next) o21.1.at_),()),o22,((Ev.Query.mk o23.1.dots o23.1.arrows o23.1.wher o23.1.items o23.1.dist),(Ev.Graph.mk o23.2.1.nodes o23.2.1.edges o23.2.1.next),o23.2.2.1,()),o24,()))
 else kx (((Ev.Envr.mk (Ev.Graph.mk o21.1.g.nodes o21.1.g.edges o21.1.g.next) o21.1.at_),()),o22,((Ev.Query.mk o23.1.dots o23.1.arrows o23.1.wher o23.1.items o23.1.dist),(Ev.Graph.mk o23.2.1.nodes o23.2.1.edges o23.2.1.next),o23.2.2.1,()),o24,()))
def p0t{ρ:Type}(n:Nat)(kr:Unit→Option ρ):Int→Ev.Dot→((Ev.Envr×Unit)×(List (ByteArray×Int))×(Ev.Query×Ev.Graph×(List (List (Ev.Pair×Bool)))×Unit)×(List Int)×Unit)→(((Ev.Envr×Unit)×(List (ByteArray×Int))×(Ev.Query×Ev.Graph×(List (List (Ev.Pair×Bool)))×Unit)×(List Int)×Unit)→Option ρ)→Option ρ:=
 fun v5 x10 (o6,o7,o8,o9,_) rec=>
 (bif !(seq x10.name (⟨#[]⟩:ByteArray))then
 (ix o9 v5).bind fun _=>
 ((o9)[(v5:Int).toNat]?).bind fun e11=>
 (bif (e11:Int) !=0 then
 (ix o9 v5).bind fun _=>
 ((o9)[(v5:Int).toNat]?).bind fun e13=>rec (((Ev.Envr.mk (Ev.Graph.mk o6.1.g.nodes o6.1.g.edges o6.1.g.next) o6.1.at_),()),b0s .str .i64 o7 x10.name e13,((Ev.Query.mk o8.1.dots o8.1.arrows o8.1.wher o8.1.items o8.1.dist),(Ev.Graph.mk o8.2.1.nodes o8.2.1.edges o8.2.1.next),o8.2.2.1,()),o9,())
 else rec (((Ev.Envr.mk (Ev.Graph.mk o6.1.g.nodes o6.1.g.edges o6.1.g.next) o6.1.at_),()),o7,((Ev.Query.mk o8.1.dots o8.1.arrows o8.1.wher o8.1.items o8.1.dist),(Ev.Graph.mk o8.2.1.nodes o8.2.1.edges o8.2.1.next),o8.2.2.1,()),o9,()))
 else rec (((Ev.Envr.mk (Ev.Graph.mk o6.1.g.nodes o6.1.g.edges o6.1.g.next) o6.1.at_),()),o7,((Ev.Query.mk o8.1.dots o8.1.arrows o8.1.wher o8.1.items o8.1.dist),(Ev.Graph.mk o8.2.1.nodes o8.2.1.edges o8.2.1.next),o8.2.2.1,()),o9,()))
theorem l0c{ρ:Type}(n:Nat)(kx:(Ev.Envr×Unit)×(List (ByteArray×Int))×(Ev.Query×Ev.Graph×(List (List (Ev.Pair×Bool)))×Unit)×(List Int)×Unit→Option ρ)(kr:Unit→Option ρ)(l:List Ev.Dot)(fuel:Nat)(o6:Ev.Envr×Unit)(o7:List (ByteArray×Int))(o8:Ev.Query×Ev.Graph×(List (List (Ev.Pair×Bool)))×Unit)(o9:List Int)(hl:l.length≤9223372036854775807)(hf:l.length<fuel):
  a0k (fun rc=>w0p n rc kx kr) fuel (l,(l.length:Int),0,o6,o7,o8,o9,())=a0i (p0t n kr) (fun(o6,o7,o8,o9,_)=>kx (((Ev.Envr.mk (Ev.Graph.mk o6.1.g.nodes o6.1.g.edges o6.1.g.next) o6.1.at_),()),o7,((Ev.Query.mk o8.1.dots o8.1.arrows o8.1.wher o8.1.items o8.1.dist),(Ev.Graph.mk o8.2.1.nodes o8.2.1.edges o8.2.1.next),o8.2.2.1,()),o9,())) 0 l (o6,o7,o8,o9,()):=
 a0h l (fun i (o6,o7,o8,o9,_)=>(l,(l.length:Int),i,o6,o7,o8,o9,())) _ _ _ (fun rec i s=>rfl) hl fuel (o6,o7,o8,o9,()) hf
def k0f{ρ:Type}(n:Nat)(kr:Unit→Option ρ):Int→Ev.Arrow→((Ev.Envr×Unit)×(List (ByteArray×Int))×(Ev.Query×Ev.Graph×(List (List (Ev.Pair×Bool)))×Unit)×(List Int)×Unit)→(((Ev.Envr×Unit)×(List (ByteArray×Int))×(Ev.Query×Ev.Graph×(List (List (Ev.Pair×Bool)))×Unit)×(List Int)×Unit)→Option ρ)→Option ρ:=
 fun v20 x25 (o21,o22,o23,o24,_) rec=>
 (bif !(seq x25.name (⟨#[]⟩:ByteArray))then
 (ix o24 (IntKind.wrap .i64 ((o23.1.dots.length:Int)+v20))).bind fun _=>
 ((o24)[(IntKind.wrap .i64 ((o23.1.dots.length:Int)+v20):Int).toNat]?).bind fun e27=>rec (((Ev.Envr.mk (Ev.Graph.mk o21.1.g.nodes o21.1.g.edges o21.1.g.next) o21.1.at_),()),b0s .str .i64 o22 x25.name e27,((Ev.Query.mk o23.1.dots o23.1.arrows o23.1.wher o23.1.items o23.1.dist),(Ev.Graph.mk o23.2.1.nodes o23.2.1.edges o23.2.1.next),o23.2.2.1,()),o24,())
 else rec (((Ev.Envr.mk (Ev.Graph.mk o21.1.g.nodes o21.1.g.edges o21.1.g.next) o21.1.at_),()),o22,((Ev.Query.mk o23.1.dots o23.1.arrows o23.1.wher o23.1.items o23.1.dist),(Ev.Graph.mk o23.2.1.nodes o23.2.1.edges o23.2.1.next),o23.2.2.1,()),o24,()))
theorem k0q{ρ:Type}(n:Nat)(kx:(Ev.Envr×Unit)×(List (ByteArray×Int))×(Ev.Query×Ev.Graph×(List (List (Ev.Pair×Bool)))×Unit)×(List Int)×Unit→Option ρ)(kr:Unit→Option ρ)(l:List Ev.Arrow)(fuel:Nat)(o21:Ev.Envr×Unit)(o22:List (ByteArray×Int))(o23:Ev.Query×Ev.Graph×(List (List (Ev.Pair×Bool)))×Unit)(o24:List Int)(hl:l.length≤9223372036854775807)(hf:l.length<fuel):
  a0k (fun rc=>x0r n rc kx kr) fuel (l,(l.length:Int),0,o21,o22,o23,o24,())=a0i (k0f n kr) (fun(o21,o22,o23,o24,_)=>kx (((Ev.Envr.mk (Ev.Graph.mk o21.1.g.nodes o21.1.g.edges o21.1.g.next) o21.1.at_),()),o22,((Ev.Query.mk o23.1.dots o23.1.arrows o23.1.wher o23.1.items o23.1.dist),(Ev.Graph.mk o23.2.1.nodes o23.2.1.edges o23.2.1.next),o23.2.2.1,()),o24,())) 0 l (o21,o22,o23,o24,()):=
 a0h l (fun i (o21,o22,o23,o24,_)=>(l,(l.length:Int),i,o21,o22,o23,o24,())) _ _ _ (fun rec i s=>rfl) hl fuel (o21,o22,o23,o24,()) hf
def q19z(n:Nat):(Ev.Query×Ev.Graph×(List (List (Ev.Pair×Bool)))×Unit)×(List Int)×Unit→Option (Ev.Envr×(Ev.Query×Ev.Graph×(List (List (Ev.Pair×Bool)))×Unit)×(List Int)×Unit):=
 fun(o1,o2,_)=>
 a0k (fun rc33=>w0p n rc33 (fun(o14,o15,o16,o17,_)=>
 a0k (fun rc32=>x0r n rc32 (fun(o28,o29,o30,o31,_)=>some ((Ev.Envr.mk (Ev.Graph.mk o30.2.1.nodes o30.2.1.edges o30.2.1.next) o29),((Ev.Query.mk o30.1.dots o30.1.arrows o30.1.wher o30.1.items o30.1.dist),(Ev.Graph.mk o30.2.1.nodes o30.2.1.edges o30.2.1.next),o30.2.2.1,()),o31,())) (fun(_)=>none)) (n) (o16.1.arrows,(o16.1.arrows.length:Int),0,((Ev.Envr.mk (Ev.Graph.mk o14.1.g.nodes o14.1.g.edges o14.1.g.next) o14.1.at_),()),o15,((Ev.Query.mk o16.1.dots o16.1.arrows o16.1.wher o16.1.items o16.1.dist),(Ev.Graph.mk o16.2.1.nodes o16.2.1.edges o16.2.1.next),o16.2.2.1,()),o17,())) (fun(_)=>none)) (n) (o1.1.dots,(o1.1.dots.length:Int),0,((Ev.Envr.mk (Ev.Graph.mk ([]:List Ev.Node) ([]:List Ev.Edg) 0) ([]:List (ByteArray×Int))),()),([]:List (ByteArray×Int)),((Ev.Query.mk o1.1.dots o1.1.arrows o1.1.wher o1.1.items o1.1.dist),(Ev.Graph.mk o1.2.1.nodes o1.2.1.edges o1.2.1.next),o1.2.2.1,()),o2,())
def s0d{ρ:Type}(self_q66z:Ev.Val×Unit→Option (Ev.Val×Unit))(n:Nat)(rec:(List Ev.Val)×Int×Int×(Int×Int×ByteArray×Unit)×(Ev.Val×Unit)×(List Ev.Val)×Unit→Option ρ)(kx:(Int×Int×ByteArray×Unit)×(Ev.Val×Unit)×(List Ev.Val)×Unit→Option ρ)(kr:Unit→Option ρ):(List Ev.Val)×Int×Int×(Int×Int×ByteArray×Unit)×(Ev.Val×Unit)×(List Ev.Val)×Unit→Option ρ:=
 fun(v2,v3,v4,o5,o6,o7,_)=>
 (bif decide ((v4:Int)<v3)then
 (ix v2 v4).bind fun x8=>
 (self_q66z ((Ev.Val.mk x8.kind x8.n x8.s x8.l),())).bind fun(y10,_)=>
 ck (room (o7++([(Ev.Val.mk y10.kind y10.n y10.s y10.l)]:List Ev.Val)).length 56) (rec (v2,v3,IntKind.wrap .i64 (v4+1),(o5.1,o5.2.1,o5.2.2.1,()),((Ev.Val.mk o6.1.kind o6.1.n o6.1.s o6.1.l),()),o7++([(Ev.Val.mk y10.kind y10.n y10.s y10.l)]:List Ev.Val),()))
 else kx ((o5.1,o5.2.1,o5.2.2.1,()),((Ev.Val.mk o6.1.kind o6.1.n o6.1.s o6.1.l),()),o7,()))
def v1o{ρ:Type}(self_q66z:Ev.Val×Unit→Option (Ev.Val×Unit))(n:Nat)(kr:Unit→Option ρ):Int→Ev.Val→((Int×Int×ByteArray×Unit)×(Ev.Val×Unit)×(List Ev.Val)×Unit)→(((Int×Int×ByteArray×Unit)×(Ev.Val×Unit)×(List Ev.Val)×Unit)→Option ρ)→Option ρ:=
 fun v4 x8 (o5,o6,o7,_) rec=>
 (self_q66z ((Ev.Val.mk x8.kind x8.n x8.s x8.l),())).bind fun(y10,_)=>
 ck (room (o7++([(Ev.Val.mk y10.kind y10.n y10.s y10.l)]:List Ev.Val)).length 56) (rec ((o5.1,o5.2.1,o5.2.2.1,()),((Ev.Val.mk o6.1.kind o6.1.n o6.1.s o6.1.l),()),o7++([(Ev.Val.mk y10.kind y10.n y10.s y10.l)]:List Ev.Val),()))
theorem q0i{ρ:Type}(self_q66z:Ev.Val×Unit→Option (Ev.Val×Unit))(n:Nat)(kx:(Int×Int×ByteArray×Unit)×(Ev.Val×Unit)×(List Ev.Val)×Unit→Option ρ)(kr:Unit→Option ρ)(l:List Ev.Val)(fuel:Nat)(o5:Int×Int×ByteArray×Unit)(o6:Ev.Val×Unit)(o7:List Ev.Val)(hl:l.length≤9223372036854775807)(hf:l.length<fuel):
  a0k (fun rc=>s0d self_q66z n rc kx kr) fuel (l,(l.length:Int),0,o5,o6,o7,())=a0i (v1o self_q66z n kr) (fun(o5,o6,o7,_)=>kx ((o5.1,o5.2.1,o5.2.2.1,()),((Ev.Val.mk o6.1.kind o6.1.n o6.1.s o6.1.l),()),o7,())) 0 l (o5,o6,o7,()):=
 a0h l (fun i (o5,o6,o7,_)=>(l,(l.length:Int),i,o5,o6,o7,())) _ _ _ (fun rec i s=>rfl) hl fuel (o5,o6,o7,()) hf
def m1u(self_q66z:Ev.Val×Unit→Option (Ev.Val×Unit))(n:Nat):Ev.Val×Unit→Option (Ev.Val×Unit):=
 fun(a1,_)=>
 a0k (fun rc14=>s0d self_q66z n rc14 (fun(o11,o12,o13,_)=>some ((Ev.Val.mk o11.1 o11.2.1 o11.2.2.1 o13),())) (fun(_)=>none)) (n) (a1.l,(a1.l.length:Int),0,(a1.kind,a1.n,a1.s,()),((Ev.Val.mk 0 0 (⟨#[]⟩:ByteArray) ([]:List Ev.Val)),()),([]:List Ev.Val),())
def q66z:Nat→Ev.Val×Unit→Option (Ev.Val×Unit)
 | 0,_=>none
 | n+1,x=>m1u (q66z n) n x
def d0u{ρ:Type}(n:Nat)(rec:ByteArray×(List Ev.Prp)×Int×Int×(Ev.Val×Unit)×Unit→Option ρ)(kx:(Ev.Val×Unit)×Unit→Option ρ)(kr:(Ev.Val×Unit)×Unit→Option ρ):ByteArray×(List Ev.Prp)×Int×Int×(Ev.Val×Unit)×Unit→Option ρ:=
 fun(v3,v4,v5,v6,o7,_)=>
 (bif decide ((v6:Int)<v5)then
 (ix v4 v6).bind fun x8=>
 (bif seq x8.name v3 then
 (q66z n ((Ev.Val.mk x8.val.kind x8.val.n x8.val.s x8.val.l),())).bind fun(y9,_)=>kr (((Ev.Val.mk y9.kind y9.n y9.s y9.l),()),())
 else rec (v3,v4,v5,IntKind.wrap .i64 (v6+1),((Ev.Val.mk o7.1.kind o7.1.n o7.1.s o7.1.l),()),()))
 else kx (((Ev.Val.mk o7.1.kind o7.1.n o7.1.s o7.1.l),()),()))
def t0k{ρ:Type}(n:Nat)(kr:(Ev.Val×Unit)×Unit→Option ρ):Int→Ev.Prp→(ByteArray×(Ev.Val×Unit)×Unit)→((ByteArray×(Ev.Val×Unit)×Unit)→Option ρ)→Option ρ:=
 fun v6 x8 (v3,o7,_) rec=>
 (bif seq x8.name v3 then
 (q66z n ((Ev.Val.mk x8.val.kind x8.val.n x8.val.s x8.val.l),())).bind fun(y9,_)=>kr (((Ev.Val.mk y9.kind y9.n y9.s y9.l),()),())
 else rec (v3,((Ev.Val.mk o7.1.kind o7.1.n o7.1.s o7.1.l),()),()))
theorem f0f{ρ:Type}(n:Nat)(kx:(Ev.Val×Unit)×Unit→Option ρ)(kr:(Ev.Val×Unit)×Unit→Option ρ)(l:List Ev.Prp)(fuel:Nat)(v3:ByteArray)(o7:Ev.Val×Unit)(hl:l.length≤9223372036854775807)(hf:l.length<fuel):
  a0k (fun rc=>d0u n rc kx kr) fuel (v3,l,(l.length:Int),0,o7,())=a0i (t0k n kr) (fun(v3,o7,_)=>kx (((Ev.Val.mk o7.1.kind o7.1.n o7.1.s o7.1.l),()),())) 0 l (v3,o7,()):=
 a0h l (fun i (v3,o7,_)=>(v3,l,(l.length:Int),i,o7,())) _ _ _ (fun rec i s=>rfl) hl fuel (v3,o7,()) hf
def e0i(n:Nat):(List Ev.Prp)×ByteArray×Unit→Option (Ev.Val×Unit):=
 fun(a1,a2,_)=>
 a0k (fun rc12=>d0u n rc12 (fun(o10,_)=>some ((Ev.Val.mk 0 0 (⟨#[]⟩:ByteArray) ([]:List Ev.Val)),())) (fun(o11,_)=>some ((Ev.Val.mk o11.1.kind o11.1.n o11.1.s o11.1.l),()))) (n) (a2,a1,(a1.length:Int),0,((Ev.Val.mk 0 0 (⟨#[]⟩:ByteArray) ([]:List Ev.Val)),()),())
def q24z:Ev.Edg×Int×Unit→Option (Int×Unit):=
 fun(a1,a2,_)=>
 (q25z (a1.id,a2,())).bind fun(y3,_)=>some (y3,())
def j1k{ρ:Type}(n:Nat)(rec:(List Ev.Edg)×Int×Int×Int×Int×Unit→Option ρ)(kx:(List Ev.Edg)×Int×Int×Int×Unit→Option ρ)(kr:Unit→Option ρ):(List Ev.Edg)×Int×Int×Int×Int×Unit→Option ρ:=
 fun(v3,v4,v5,v6,v7,_)=>
 (bif decide ((v6:Int)<v7)then
 (ix v3 (IntKind.wrap .i64 (bshr .u64 (IntKind.wrap .u64 (IntKind.wrap .i64 (v6+v7))) 1))).bind fun x8=>
 (q24z ((Ev.Edg.mk x8.id x8.src x8.dst x8.type x8.props),v4,())).bind fun(y9,_)=>
 (bif decide ((y9:Int)<0)then rec (v3,v4,v5,IntKind.wrap .i64 ((IntKind.wrap .i64 (bshr .u64 (IntKind.wrap .u64 (IntKind.wrap .i64 (v6+v7))) 1))+1),v7,())
 else rec (v3,v4,v5,v6,IntKind.wrap .i64 (bshr .u64 (IntKind.wrap .u64 (IntKind.wrap .i64 (v6+v7))) 1),()))
 else kx (v3,v4,v5,v6,()))
def q1z(n:Nat):(List Ev.Edg)×Int×Unit→Option (Int×Bool×Unit):=
 fun(a1,a2,_)=>
 a0k (fun rc16=>j1k n rc16 (fun(v10,v11,v12,v13,_)=>
 (bif decide ((v13:Int)<v12)then
 (ix v10 v13).bind fun x14=>
 (q24z ((Ev.Edg.mk x14.id x14.src x14.dst x14.type x14.props),v11,())).bind fun(y15,_)=>some (v13,(y15:Int)==0,())
 else some (v13,false,()))) (fun(_)=>none)) (n) (a1,a2,(a1.length:Int),0,(a1.length:Int),())
def q33z(n:Nat):Ev.Graph×Int×Unit→Option (Int×Unit):=
 fun(a1,a2,_)=>
 (q1z n (a1.edges,a2,())).bind fun(y3,y4,_)=>
 (bif !y4 then some ((-1),())
 else some (y3,()))
def q36z(n:Nat):Ev.Envr×Int×ByteArray×Unit→Option (Ev.Val×Unit):=
 fun(a1,a2,a3,_)=>
 (q59z n ((Ev.Graph.mk a1.g.nodes a1.g.edges a1.g.next),a2,())).bind fun(y4,_)=>
 (bif decide ((y4:Int) ≥0)then
 (ix a1.g.nodes y4).bind fun x5=>
 (e0i n (x5.props,a3,())).bind fun(y6,_)=>some ((Ev.Val.mk y6.kind y6.n y6.s y6.l),())
 else
 (q33z n ((Ev.Graph.mk a1.g.nodes a1.g.edges a1.g.next),a2,())).bind fun(y7,_)=>
 (bif decide ((y7:Int) ≥0)then
 (ix a1.g.edges y7).bind fun x8=>
 (e0i n (x8.props,a3,())).bind fun(y9,_)=>some ((Ev.Val.mk y9.kind y9.n y9.s y9.l),())
 else some ((Ev.Val.mk 0 0 (⟨#[]⟩:ByteArray) ([]:List Ev.Val)),())))
def f0s:Int×Int×Unit→Option (Int×Bool×Unit):=
 fun(a1,a2,_)=>some (IntKind.wrap .i64 (a1+a2),(decide ((IntKind.wrap .i64 (a1+a2):Int) >a1))==(decide ((a2:Int) >0)),())
def x0c{ρ:Type}(n:Nat)(rec:(List Ev.Val)×Int×Int×(Int×Int×ByteArray×Unit)×(Ev.Val×Unit)×(List Ev.Val)×Unit→Option ρ)(kx:(Int×Int×ByteArray×Unit)×(Ev.Val×Unit)×(List Ev.Val)×Unit→Option ρ)(kr:Unit→Option ρ):(List Ev.Val)×Int×Int×(Int×Int×ByteArray×Unit)×(Ev.Val×Unit)×(List Ev.Val)×Unit→Option ρ:=
 fun(v2,v3,v4,o5,o6,o7,_)=>
 (bif decide ((v4:Int)<v3)then
 (ix v2 v4).bind fun x8=>
 (q66z n ((Ev.Val.mk x8.kind x8.n x8.s x8.l),())).bind fun(y10,_)=>
 ck (room (o7++([(Ev.Val.mk y10.kind y10.n y10.s y10.l)]:List Ev.Val)).length 56) (rec (v2,v3,IntKind.wrap .i64 (v4+1),(o5.1,o5.2.1,o5.2.2.1,()),((Ev.Val.mk o6.1.kind o6.1.n o6.1.s o6.1.l),()),o7++([(Ev.Val.mk y10.kind y10.n y10.s y10.l)]:List Ev.Val),()))
 else kx ((o5.1,o5.2.1,o5.2.2.1,()),((Ev.Val.mk o6.1.kind o6.1.n o6.1.s o6.1.l),()),o7,()))
def l0j{ρ:Type}(n:Nat)(kr:Unit→Option ρ):Int→Ev.Val→((Int×Int×ByteArray×Unit)×(Ev.Val×Unit)×(List Ev.Val)×Unit)→(((Int×Int×ByteArray×Unit)×(Ev.Val×Unit)×(List Ev.Val)×Unit)→Option ρ)→Option ρ:=
 fun v4 x8 (o5,o6,o7,_) rec=>
 (q66z n ((Ev.Val.mk x8.kind x8.n x8.s x8.l),())).bind fun(y10,_)=>
 ck (room (o7++([(Ev.Val.mk y10.kind y10.n y10.s y10.l)]:List Ev.Val)).length 56) (rec ((o5.1,o5.2.1,o5.2.2.1,()),((Ev.Val.mk o6.1.kind o6.1.n o6.1.s o6.1.l),()),o7++([(Ev.Val.mk y10.kind y10.n y10.s y10.l)]:List Ev.Val),()))
theorem l0i{ρ:Type}(n:Nat)(kx:(Int×Int×ByteArray×Unit)×(Ev.Val×Unit)×(List Ev.Val)×Unit→Option ρ)(kr:Unit→Option ρ)(l:List Ev.Val)(fuel:Nat)(o5:Int×Int×ByteArray×Unit)(o6:Ev.Val×Unit)(o7:List Ev.Val)(hl:l.length≤9223372036854775807)(hf:l.length<fuel):
  a0k (fun rc=>x0c n rc kx kr) fuel (l,(l.length:Int),0,o5,o6,o7,())=a0i (l0j n kr) (fun(o5,o6,o7,_)=>kx ((o5.1,o5.2.1,o5.2.2.1,()),((Ev.Val.mk o6.1.kind o6.1.n o6.1.s o6.1.l),()),o7,())) 0 l (o5,o6,o7,()):=
 a0h l (fun i (o5,o6,o7,_)=>(l,(l.length:Int),i,o5,o6,o7,())) _ _ _ (fun rec i s=>rfl) hl fuel (o5,o6,o7,()) hf
def q37z(n:Nat):Ev.Val×Unit→Option ((Int×Int×ByteArray×Unit)×(List Ev.Val)×Unit):=
 fun(a1,_)=>
 a0k (fun rc14=>x0c n rc14 (fun(o11,o12,o13,_)=>some ((o11.1,o11.2.1,o11.2.2.1,()),o13,())) (fun(_)=>none)) (n) (a1.l,(a1.l.length:Int),0,(a1.kind,a1.n,a1.s,()),((Ev.Val.mk 0 0 (⟨#[]⟩:ByteArray) ([]:List Ev.Val)),()),([]:List Ev.Val),())
def f0u:Int×Int×Unit→Option (Int×Bool×Unit):=
 fun(a1,a2,_)=>some (IntKind.wrap .i64 (a1 - a2),(decide ((IntKind.wrap .i64 (a1 - a2):Int)<a1))==(decide ((a2:Int) >0)),())
def q56z:Int×Unit→Option (Int×Unit):=
 fun(a1,_)=>
 (bif decide ((a1:Int)<0)then some (IntKind.wrap .u64 (0 - (IntKind.wrap .u64 (a1))),())
 else some (IntKind.wrap .u64 (a1),()))
def q28z:Int×Int×Unit→Option (Int×Int×Unit):=
 fun(a1,a2,_)=>some (IntKind.wrap .u64 ((IntKind.wrap .u64 ((IntKind.wrap .u64 ((bshr .u64 a1 32)*(bshr .u64 a2 32)))+(bshr .u64 (IntKind.wrap .u64 ((IntKind.wrap .u64 ((bshr .u64 a1 32)*(band .u64 a2 4294967295)))+(bshr .u64 (IntKind.wrap .u64 ((band .u64 a1 4294967295)*(band .u64 a2 4294967295))) 32))) 32)))+(bshr .u64 (IntKind.wrap .u64 ((band .u64 (IntKind.wrap .u64 ((IntKind.wrap .u64 ((bshr .u64 a1 32)*(band .u64 a2 4294967295)))+(bshr .u64 (IntKind.wrap .u64 ((band .u64 a1 4294967295)*(band .u64 a2 4294967295))) 32))) 4294967295)+(IntKind.wrap .u64 ((band .u64 a1 4294967295)*(bshr .u64 a2 32))))) 32)),IntKind.wrap .u64 (a1*a2),())
def f0n:Int×Int×Unit→Option (Int×Bool×Unit):=
 fun(a1,a2,_)=>
 (q56z (a1,())).bind fun(y3,_)=>
 (q56z (a2,())).bind fun(y4,_)=>
 (q28z (y3,y4,())).bind fun(y5,y6,_)=>
 (bif (((y5:Int) !=0) || (decide ((y6:Int) >9223372036854775808))) || (((y6:Int)==9223372036854775808)&& (!(!((decide ((a1:Int)<0))==(decide ((a2:Int)<0))))))then some (0,false,())
 else
 (bif !((decide ((a1:Int)<0))==(decide ((a2:Int)<0)))then some (IntKind.wrap .i64 (IntKind.wrap .u64 (0 - y6)),true,())
 else some (IntKind.wrap .i64 (y6),true,())))
def q43z(n:Nat):ByteArray×Ev.Val×Ev.Val×Unit→Option (Ev.Val×Int×Unit):=
 fun(a1,a2,a3,_)=>
 (bif seq a1 (⟨#[43]⟩:ByteArray)then
 (bif ((a2.kind:Int)==0) || ((a3.kind:Int)==0)then some ((Ev.Val.mk 0 0 (⟨#[]⟩:ByteArray) ([]:List Ev.Val)),0,())
 else
 (bif ((a2.kind:Int)==2)&& ((a3.kind:Int)==2)then
 (f0s (a2.n,a3.n,())).bind fun(y4,y5,_)=>
 (bif !y5 then some ((Ev.Val.mk 0 0 (⟨#[]⟩:ByteArray) ([]:List Ev.Val)),4,())
 else some ((Ev.Val.mk 2 y4 (⟨#[]⟩:ByteArray) ([]:List Ev.Val)),0,()))
 else
 (bif ((seq a1 (⟨#[43]⟩:ByteArray))&& ((a2.kind:Int)==3))&& ((a3.kind:Int)==3)then
 (bif decide ((IntKind.wrap .i64 ((a2.s.size:Int)+(a3.s.size:Int)):Int) >4000)then some ((Ev.Val.mk 0 0 (⟨#[]⟩:ByteArray) ([]:List Ev.Val)),2,())
 else
 (cat? a2.s a3.s).bind fun s6=>some ((Ev.Val.mk 3 0 s6 ([]:List Ev.Val)),0,()))
 else
 (bif ((seq a1 (⟨#[43]⟩:ByteArray))&& ((a2.kind:Int)==4))&& ((a3.kind:Int)==4)then
 (bif decide ((IntKind.wrap .i64 ((a2.l.length:Int)+(a3.l.length:Int)):Int) >30)then some ((Ev.Val.mk 0 0 (⟨#[]⟩:ByteArray) ([]:List Ev.Val)),2,())
 else
 (q37z n ((Ev.Val.mk a2.kind a2.n a2.s a2.l),())).bind fun(y8,o9,_)=>
 (q37z n ((Ev.Val.mk a3.kind a3.n a3.s a3.l),())).bind fun(y10,o11,_)=>
 ck (room (o9++o11).length 56) (some ((Ev.Val.mk 4 0 (⟨#[]⟩:ByteArray) (o9++o11)),0,())))
 else some ((Ev.Val.mk 0 0 (⟨#[]⟩:ByteArray) ([]:List Ev.Val)),3,())))))
 else
 (bif seq a1 (⟨#[45]⟩:ByteArray)then
 (bif ((a2.kind:Int)==0) || ((a3.kind:Int)==0)then some ((Ev.Val.mk 0 0 (⟨#[]⟩:ByteArray) ([]:List Ev.Val)),0,())
 else
 (bif ((a2.kind:Int)==2)&& ((a3.kind:Int)==2)then
 (f0u (a2.n,a3.n,())).bind fun(y12,y13,_)=>
 (bif !y13 then some ((Ev.Val.mk 0 0 (⟨#[]⟩:ByteArray) ([]:List Ev.Val)),4,())
 else some ((Ev.Val.mk 2 y12 (⟨#[]⟩:ByteArray) ([]:List Ev.Val)),0,()))
 else
 (bif ((seq a1 (⟨#[43]⟩:ByteArray))&& ((a2.kind:Int)==3))&& ((a3.kind:Int)==3)then
 (bif decide ((IntKind.wrap .i64 ((a2.s.size:Int)+(a3.s.size:Int)):Int) >4000)then some ((Ev.Val.mk 0 0 (⟨#[]⟩:ByteArray) ([]:List Ev.Val)),2,())
 else
 (cat? a2.s a3.s).bind fun s14=>some ((Ev.Val.mk 3 0 s14 ([]:List Ev.Val)),0,()))
 else
 (bif ((seq a1 (⟨#[43]⟩:ByteArray))&& ((a2.kind:Int)==4))&& ((a3.kind:Int)==4)then
 (bif decide ((IntKind.wrap .i64 ((a2.l.length:Int)+(a3.l.length:Int)):Int) >30)then some ((Ev.Val.mk 0 0 (⟨#[]⟩:ByteArray) ([]:List Ev.Val)),2,())
 else
 (q37z n ((Ev.Val.mk a2.kind a2.n a2.s a2.l),())).bind fun(y16,o17,_)=>
 (q37z n ((Ev.Val.mk a3.kind a3.n a3.s a3.l),())).bind fun(y18,o19,_)=>
 ck (room (o17++o19).length 56) (some ((Ev.Val.mk 4 0 (⟨#[]⟩:ByteArray) (o17++o19)),0,())))
 else some ((Ev.Val.mk 0 0 (⟨#[]⟩:ByteArray) ([]:List Ev.Val)),3,())))))
 else
 (bif seq a1 (⟨#[42]⟩:ByteArray)then
 (bif ((a2.kind:Int)==0) || ((a3.kind:Int)==0)then some ((Ev.Val.mk 0 0 (⟨#[]⟩:ByteArray) ([]:List Ev.Val)),0,())
 else
 (bif ((a2.kind:Int)==2)&& ((a3.kind:Int)==2)then
 (f0n (a2.n,a3.n,())).bind fun(y20,y21,_)=>
 (bif !y21 then some ((Ev.Val.mk 0 0 (⟨#[]⟩:ByteArray) ([]:List Ev.Val)),4,())
 else some ((Ev.Val.mk 2 y20 (⟨#[]⟩:ByteArray) ([]:List Ev.Val)),0,()))
 else
 (bif ((seq a1 (⟨#[43]⟩:ByteArray))&& ((a2.kind:Int)==3))&& ((a3.kind:Int)==3)then
 (bif decide ((IntKind.wrap .i64 ((a2.s.size:Int)+(a3.s.size:Int)):Int) >4000)then some ((Ev.Val.mk 0 0 (⟨#[]⟩:ByteArray) ([]:List Ev.Val)),2,())
 else
 (cat? a2.s a3.s).bind fun s22=>some ((Ev.Val.mk 3 0 s22 ([]:List Ev.Val)),0,()))
 else
 (bif ((seq a1 (⟨#[43]⟩:ByteArray))&& ((a2.kind:Int)==4))&& ((a3.kind:Int)==4)then
 (bif decide ((IntKind.wrap .i64 ((a2.l.length:Int)+(a3.l.length:Int)):Int) >30)then some ((Ev.Val.mk 0 0 (⟨#[]⟩:ByteArray) ([]:List Ev.Val)),2,())
 else
 (q37z n ((Ev.Val.mk a2.kind a2.n a2.s a2.l),())).bind fun(y24,o25,_)=>
 (q37z n ((Ev.Val.mk a3.kind a3.n a3.s a3.l),())).bind fun(y26,o27,_)=>
 ck (room (o25++o27).length 56) (some ((Ev.Val.mk 4 0 (⟨#[]⟩:ByteArray) (o25++o27)),0,())))
 else some ((Ev.Val.mk 0 0 (⟨#[]⟩:ByteArray) ([]:List Ev.Val)),3,())))))
 else some ((Ev.Val.mk 0 0 (⟨#[]⟩:ByteArray) ([]:List Ev.Val)),5,()))))
def q22z:ByteArray×Unit→Option (Bool×Unit):=
 fun(a1,_)=>some (!(seq a1 a1),())
def q15z:ByteArray×ByteArray×Unit→Option (Int×Unit):=
 fun(a1,a2,_)=>
 (q22z (a1,())).bind fun(y3,_)=>
 (q22z (a2,())).bind fun(y4,_)=>
 (bif y3 then
 (bif y4 then some (0,())
 else some ((-1),()))
 else
 (bif y4 then some (1,())
 else
 (bif f0r a1 a2 then some ((-1),())
 else
 (bif !(f0r a1 a2 || seq a1 a2)then some (1,())
 else some (0,())))))
def z0v{ρ:Type}(self_q54z:Ev.Val×Ev.Val×Unit→Option (Int×Unit))(n:Nat)(rec:(List Ev.Val)×(List Ev.Val)×(List Ev.Val)×Int×Int×Unit→Option ρ)(kx:(List Ev.Val)×(List Ev.Val)×Unit→Option ρ)(kr:Int×Unit→Option ρ):(List Ev.Val)×(List Ev.Val)×(List Ev.Val)×Int×Int×Unit→Option ρ:=
 fun(v3,v4,v5,v6,v7,_)=>
 (bif decide ((v7:Int)<v6)then
 (ix v5 v7).bind fun x8=>
 (bif decide ((v7:Int) ≥(v4.length:Int))then kr (1,())
 else
 (ix v4 v7).bind fun x9=>
 (self_q54z ((Ev.Val.mk x8.kind x8.n x8.s x8.l),(Ev.Val.mk x9.kind x9.n x9.s x9.l),())).bind fun(y10,_)=>
 (bif (y10:Int) !=0 then kr (y10,())
 else rec (v3,v4,v5,v6,IntKind.wrap .i64 (v7+1),())))
 else kx (v3,v4,()))
def b2l{ρ:Type}(self_q54z:Ev.Val×Ev.Val×Unit→Option (Int×Unit))(n:Nat)(kr:Int×Unit→Option ρ):Int→Ev.Val→((List Ev.Val)×(List Ev.Val)×Unit)→(((List Ev.Val)×(List Ev.Val)×Unit)→Option ρ)→Option ρ:=
 fun v7 x8 (v3,v4,_) rec=>
 (bif decide ((v7:Int) ≥(v4.length:Int))then kr (1,())
 else
 (ix v4 v7).bind fun x9=>
 (self_q54z ((Ev.Val.mk x8.kind x8.n x8.s x8.l),(Ev.Val.mk x9.kind x9.n x9.s x9.l),())).bind fun(y10,_)=>
 (bif (y10:Int) !=0 then kr (y10,())
 else rec (v3,v4,())))
theorem w0w{ρ:Type}(self_q54z:Ev.Val×Ev.Val×Unit→Option (Int×Unit))(n:Nat)(kx:(List Ev.Val)×(List Ev.Val)×Unit→Option ρ)(kr:Int×Unit→Option ρ)(l:List Ev.Val)(fuel:Nat)(v3:List Ev.Val)(v4:List Ev.Val)(hl:l.length≤9223372036854775807)(hf:l.length<fuel):
  a0k (fun rc=>z0v self_q54z n rc kx kr) fuel (v3,v4,l,(l.length:Int),0,())=a0i (b2l self_q54z n kr) (fun(v3,v4,_)=>kx (v3,v4,())) 0 l (v3,v4,()):=
 a0h l (fun i (v3,v4,_)=>(v3,v4,l,(l.length:Int),i,())) _ _ _ (fun rec i s=>rfl) hl fuel (v3,v4,()) hf
def q0z(self_q54z:Ev.Val×Ev.Val×Unit→Option (Int×Unit))(n:Nat):(List Ev.Val)×(List Ev.Val)×Unit→Option (Int×Unit):=
 fun(a1,a2,_)=>
 a0k (fun rc14=>z0v self_q54z n rc14 (fun(v11,v12,_)=>
 (bif decide (((v11.length:Int):Int)< (v12.length:Int))then some ((-1),())
 else some (0,()))) (fun(v13,_)=>some (v13,()))) (n) (a1,a2,a1,(a1.length:Int),0,())
def v0v{ρ:Type}(n:Nat)(rec:Int×(List Int)×Int×Int×Unit→Option ρ)(kx:Int×Unit→Option ρ)(kr:Int×Unit→Option ρ):Int×(List Int)×Int×Int×Unit→Option ρ:=
 fun(v2,v3,v4,v5,_)=>
 (bif decide ((v5:Int)<v4)then
 (ix v3 v5).bind fun x6=>
 (bif (x6:Int) !=v2 then kr (x6,())
 else rec (v2,v3,v4,IntKind.wrap .i64 (v5+1),()))
 else kx (v2,()))
def d1c{ρ:Type}(n:Nat)(kr:Int×Unit→Option ρ):Int→Int→(Int×Unit)→((Int×Unit)→Option ρ)→Option ρ:=
 fun v5 x6 (v2,_) rec=>
 (bif (x6:Int) !=v2 then kr (x6,())
 else rec (v2,()))
theorem l0p{ρ:Type}(n:Nat)(kx:Int×Unit→Option ρ)(kr:Int×Unit→Option ρ)(l:List Int)(fuel:Nat)(v2:Int)(hl:l.length≤9223372036854775807)(hf:l.length<fuel):
  a0k (fun rc=>v0v n rc kx kr) fuel (v2,l,(l.length:Int),0,())=a0i (d1c n kr) (fun(v2,_)=>kx (v2,())) 0 l (v2,()):=
 a0h l (fun i (v2,_)=>(v2,l,(l.length:Int),i,())) _ _ _ (fun rec i s=>rfl) hl fuel (v2,()) hf
def q58z(n:Nat):(List Int)×Unit→Option (Int×Unit):=
 fun(a1,_)=>
 a0k (fun rc9=>v0v n rc9 (fun(v7,_)=>some (v7,())) (fun(v8,_)=>some (v8,()))) (n) (0,a1,(a1.length:Int),0,())
def i1g(self_q54z:Ev.Val×Ev.Val×Unit→Option (Int×Unit))(n:Nat):Ev.Val×Ev.Val×Unit→Option (Int×Unit):=
 fun(a1,a2,_)=>
 (q25z (a1.kind,a2.kind,())).bind fun(y3,_)=>
 (bif (y3:Int) !=0 then some (y3,())
 else
 (q25z (a1.n,a2.n,())).bind fun(y4,_)=>
 (q15z (a1.s,a2.s,())).bind fun(y5,_)=>
 (q0z self_q54z n (a1.l,a2.l,())).bind fun(y6,_)=>
 (q58z n (([y4,y5,y6]:List Int),())).bind fun(y7,_)=>some (y7,()))
def q54z:Nat→Ev.Val×Ev.Val×Unit→Option (Int×Unit)
 | 0,_=>none
 | n+1,x=>i1g (q54z n) n x
def q57z:Bool×Unit→Option (Ev.Val×Unit):=
 fun(a1,_)=>
 (bif a1 then some ((Ev.Val.mk 1 1 (⟨#[]⟩:ByteArray) ([]:List Ev.Val)),())
 else some ((Ev.Val.mk 1 0 (⟨#[]⟩:ByteArray) ([]:List Ev.Val)),()))
def j0t{ρ:Type}(self_q68z:Ev.Val×Ev.Val×Unit→Option (Ev.Val×Unit))(n:Nat)(rec:Int×Int×(Ev.Val×Unit)×(Ev.Val×Unit)×(Ev.Val×Unit)×(Ev.Val×Unit)×Unit→Option ρ)(kx:(Ev.Val×Unit)×(Ev.Val×Unit)×Unit→Option ρ)(kr:(Ev.Val×Unit)×Unit→Option ρ):Int×Int×(Ev.Val×Unit)×(Ev.Val×Unit)×(Ev.Val×Unit)×(Ev.Val×Unit)×Unit→Option ρ:=
 fun(v7,v8,o9,o10,o11,o12,_)=>
 (bif decide ((v8:Int)<v7)then
 (ix o9.1.l v8).bind fun x16=>
 (ix o10.1.l v8).bind fun x17=>
 (self_q68z ((Ev.Val.mk x16.kind x16.n x16.s x16.l),(Ev.Val.mk x17.kind x17.n x17.s x17.l),())).bind fun(y18,_)=>
 (bif (y18.kind:Int)==0 then rec (v7,IntKind.wrap .i64 (v8+1),((Ev.Val.mk o9.1.kind o9.1.n o9.1.s o9.1.l),()),((Ev.Val.mk o10.1.kind o10.1.n o10.1.s o10.1.l),()),((Ev.Val.mk o11.1.kind o11.1.n o11.1.s o11.1.l),()),((Ev.Val.mk y18.kind y18.n y18.s y18.l),()),())
 else
 (bif (y18.n:Int)==0 then kr (((Ev.Val.mk y18.kind y18.n y18.s y18.l),()),())
 else rec (v7,IntKind.wrap .i64 (v8+1),((Ev.Val.mk o9.1.kind o9.1.n o9.1.s o9.1.l),()),((Ev.Val.mk o10.1.kind o10.1.n o10.1.s o10.1.l),()),((Ev.Val.mk o11.1.kind o11.1.n o11.1.s o11.1.l),()),((Ev.Val.mk o12.1.kind o12.1.n o12.1.s o12.1.l),()),())))
 else kx (((Ev.Val.mk o11.1.kind o11.1.n o11.1.s o11.1.l),()),((Ev.Val.mk o12.1.kind o12.1.n o12.1.s o12.1.l),()),()))
def k1v(self_q68z:Ev.Val×Ev.Val×Unit→Option (Ev.Val×Unit))(n:Nat):Ev.Val×Ev.Val×Unit→Option (Ev.Val×Unit):=
 fun(a1,a2,_)=>
 (bif ((a1.kind:Int)==0) || ((a2.kind:Int)==0)then some ((Ev.Val.mk 0 0 (⟨#[]⟩:ByteArray) ([]:List Ev.Val)),())
 else
 (bif ((a1.kind:Int) !=4) || ((a2.kind:Int) !=4)then
 (q54z n ((Ev.Val.mk a1.kind a1.n a1.s a1.l),(Ev.Val.mk a2.kind a2.n a2.s a2.l),())).bind fun(y3,_)=>
 (q57z ((y3:Int)==0,())).bind fun(y4,_)=>some ((Ev.Val.mk y4.kind y4.n y4.s y4.l),())
 else
 (bif ((a1.l.length:Int):Int) !=(a2.l.length:Int)then
 (q57z (false,())).bind fun(y5,_)=>some ((Ev.Val.mk y5.kind y5.n y5.s y5.l),())
 else
 (q57z (true,())).bind fun(y6,_)=>
 a0k (fun rc22=>j0t self_q68z n rc22 (fun(o19,o20,_)=>some ((Ev.Val.mk o20.1.kind o20.1.n o20.1.s o20.1.l),())) (fun(o21,_)=>some ((Ev.Val.mk o21.1.kind o21.1.n o21.1.s o21.1.l),()))) (n) ((a1.l.length:Int),0,((Ev.Val.mk a1.kind a1.n a1.s a1.l),()),((Ev.Val.mk a2.kind a2.n a2.s a2.l),()),((Ev.Val.mk 0 0 (⟨#[]⟩:ByteArray) ([]:List Ev.Val)),()),((Ev.Val.mk y6.kind y6.n y6.s y6.l),()),()))))
def q68z:Nat→Ev.Val×Ev.Val×Unit→Option (Ev.Val×Unit)
 | 0,_=>none
 | n+1,x=>k1v (q68z n) n x
def q67z(n:Nat):Ev.Val×Ev.Val×Unit→Option (Ev.Val×Unit):=
 fun(a1,a2,_)=>
 (bif ((a1.kind:Int) !=a2.kind) || (((a1.kind:Int) !=2)&& ((a1.kind:Int) !=3))then some ((Ev.Val.mk 0 0 (⟨#[]⟩:ByteArray) ([]:List Ev.Val)),())
 else
 (q54z n ((Ev.Val.mk a1.kind a1.n a1.s a1.l),(Ev.Val.mk a2.kind a2.n a2.s a2.l),())).bind fun(y3,_)=>
 (q57z (decide ((y3:Int)<0),())).bind fun(y4,_)=>some ((Ev.Val.mk y4.kind y4.n y4.s y4.l),()))
def q64z:Ev.Val×Unit→Option (Bool×Bool×Unit):=
 fun(a1,_)=>some ((a1.n:Int)==1,(a1.kind:Int)==1,())
def q65z:Bool×Unit→Option (Ev.Val×Unit):=
 fun(a1,_)=>
 (bif a1 then some ((Ev.Val.mk 1 1 (⟨#[]⟩:ByteArray) ([]:List Ev.Val)),())
 else some ((Ev.Val.mk 1 0 (⟨#[]⟩:ByteArray) ([]:List Ev.Val)),()))
def q50z:Ev.Val×Unit→Option (Ev.Val×Unit):=
 fun(a1,_)=>
 (q64z ((Ev.Val.mk a1.kind a1.n a1.s a1.l),())).bind fun(y2,y3,_)=>
 (bif y3 then
 (q65z (!y2,())).bind fun(y4,_)=>some ((Ev.Val.mk y4.kind y4.n y4.s y4.l),())
 else some ((Ev.Val.mk 0 0 (⟨#[]⟩:ByteArray) ([]:List Ev.Val)),()))
def q49z:Ev.Val×Ev.Val×Unit→Option (Ev.Val×Unit):=
 fun(a1,a2,_)=>
 (q64z ((Ev.Val.mk a1.kind a1.n a1.s a1.l),())).bind fun(y3,y4,_)=>
 (q64z ((Ev.Val.mk a2.kind a2.n a2.s a2.l),())).bind fun(y5,y6,_)=>
 (bif (y4&&y3) || (y6&&y5)then
 (q65z (true,())).bind fun(y7,_)=>some ((Ev.Val.mk y7.kind y7.n y7.s y7.l),())
 else
 (bif y4&&y6 then
 (q65z (false,())).bind fun(y8,_)=>some ((Ev.Val.mk y8.kind y8.n y8.s y8.l),())
 else some ((Ev.Val.mk 0 0 (⟨#[]⟩:ByteArray) ([]:List Ev.Val)),())))
def n0h{ρ:Type}(n:Nat)(rec:(List Ev.Val)×(List Ev.Val)×Int×Int×(Ev.Val×Unit)×(Ev.Val×Unit)×Unit→Option ρ)(kx:(Ev.Val×Unit)×(Ev.Val×Unit)×Unit→Option ρ)(kr:Unit→Option ρ):(List Ev.Val)×(List Ev.Val)×Int×Int×(Ev.Val×Unit)×(Ev.Val×Unit)×Unit→Option ρ:=
 fun(v53,v54,v55,v56,o57,o58,_)=>
 (bif decide ((v56:Int)<v55)then
 (ix v54 v56).bind fun x59=>
 (ix v53 0).bind fun x62=>
 (q68z n ((Ev.Val.mk x62.kind x62.n x62.s x62.l),(Ev.Val.mk x59.kind x59.n x59.s x59.l),())).bind fun(y63,_)=>
 (q49z ((Ev.Val.mk o58.1.kind o58.1.n o58.1.s o58.1.l),(Ev.Val.mk y63.kind y63.n y63.s y63.l),())).bind fun(y64,_)=>rec (v53,v54,v55,IntKind.wrap .i64 (v56+1),((Ev.Val.mk o57.1.kind o57.1.n o57.1.s o57.1.l),()),((Ev.Val.mk y64.kind y64.n y64.s y64.l),()),())
 else kx (((Ev.Val.mk o57.1.kind o57.1.n o57.1.s o57.1.l),()),((Ev.Val.mk o58.1.kind o58.1.n o58.1.s o58.1.l),()),()))
def n0i{ρ:Type}(n:Nat)(rec:(List Ev.Val)×Int×Int×(Ev.Val×Unit)×Unit→Option ρ)(kx:(Ev.Val×Unit)×Unit→Option ρ)(kr:(Ev.Val×Unit)×Unit→Option ρ):(List Ev.Val)×Int×Int×(Ev.Val×Unit)×Unit→Option ρ:=
 fun(v75,v76,v77,o78,_)=>
 (bif decide ((v77:Int)<v76)then
 (ix v75 v77).bind fun x79=>
 (bif (x79.kind:Int) !=0 then kr (((Ev.Val.mk x79.kind x79.n x79.s x79.l),()),())
 else rec (v75,v76,IntKind.wrap .i64 (v77+1),((Ev.Val.mk o78.1.kind o78.1.n o78.1.s o78.1.l),()),()))
 else kx (((Ev.Val.mk o78.1.kind o78.1.n o78.1.s o78.1.l),()),()))
def m0d{ρ:Type}(n:Nat)(kr:Unit→Option ρ):Int→Ev.Val→((List Ev.Val)×(Ev.Val×Unit)×(Ev.Val×Unit)×Unit)→(((List Ev.Val)×(Ev.Val×Unit)×(Ev.Val×Unit)×Unit)→Option ρ)→Option ρ:=
 fun v56 x59 (v53,o57,o58,_) rec=>
 (ix v53 0).bind fun x62=>
 (q68z n ((Ev.Val.mk x62.kind x62.n x62.s x62.l),(Ev.Val.mk x59.kind x59.n x59.s x59.l),())).bind fun(y63,_)=>
 (q49z ((Ev.Val.mk o58.1.kind o58.1.n o58.1.s o58.1.l),(Ev.Val.mk y63.kind y63.n y63.s y63.l),())).bind fun(y64,_)=>rec (v53,((Ev.Val.mk o57.1.kind o57.1.n o57.1.s o57.1.l),()),((Ev.Val.mk y64.kind y64.n y64.s y64.l),()),())
theorem m0c{ρ:Type}(n:Nat)(kx:(Ev.Val×Unit)×(Ev.Val×Unit)×Unit→Option ρ)(kr:Unit→Option ρ)(l:List Ev.Val)(fuel:Nat)(v53:List Ev.Val)(o57:Ev.Val×Unit)(o58:Ev.Val×Unit)(hl:l.length≤9223372036854775807)(hf:l.length<fuel):
  a0k (fun rc=>n0h n rc kx kr) fuel (v53,l,(l.length:Int),0,o57,o58,())=a0i (m0d n kr) (fun(v53,o57,o58,_)=>kx (((Ev.Val.mk o57.1.kind o57.1.n o57.1.s o57.1.l),()),((Ev.Val.mk o58.1.kind o58.1.n o58.1.s o58.1.l),()),())) 0 l (v53,o57,o58,()):=
 a0h l (fun i (v53,o57,o58,_)=>(v53,l,(l.length:Int),i,o57,o58,())) _ _ _ (fun rec i s=>rfl) hl fuel (v53,o57,o58,()) hf
def k0l{ρ:Type}(n:Nat)(kr:(Ev.Val×Unit)×Unit→Option ρ):Int→Ev.Val→((Ev.Val×Unit)×Unit)→(((Ev.Val×Unit)×Unit)→Option ρ)→Option ρ:=
 fun v77 x79 (o78,_) rec=>
 (bif (x79.kind:Int) !=0 then kr (((Ev.Val.mk x79.kind x79.n x79.s x79.l),()),())
 else rec (((Ev.Val.mk o78.1.kind o78.1.n o78.1.s o78.1.l),()),()))
theorem l0b{ρ:Type}(n:Nat)(kx:(Ev.Val×Unit)×Unit→Option ρ)(kr:(Ev.Val×Unit)×Unit→Option ρ)(l:List Ev.Val)(fuel:Nat)(o78:Ev.Val×Unit)(hl:l.length≤9223372036854775807)(hf:l.length<fuel):
  a0k (fun rc=>n0i n rc kx kr) fuel (l,(l.length:Int),0,o78,())=a0i (k0l n kr) (fun(o78,_)=>kx (((Ev.Val.mk o78.1.kind o78.1.n o78.1.s o78.1.l),()),())) 0 l (o78,()):=
 a0h l (fun i (o78,_)=>(l,(l.length:Int),i,o78,())) _ _ _ (fun rec i s=>rfl) hl fuel (o78,()) hf
def q39z(n:Nat):Ev.Envr×Ev.Term×(List Ev.Val)×Unit→Option (Ev.Val×Unit):=
 fun(a1,a2,a3,_)=>
 (bif seq a2.name (⟨#[43]⟩:ByteArray)then
 (bif seq a2.name (⟨#[43]⟩:ByteArray)then
 (ix a3 0).bind fun x7=>
 (ix a3 1).bind fun x8=>
 (q43z n (a2.name,(Ev.Val.mk x7.kind x7.n x7.s x7.l),(Ev.Val.mk x8.kind x8.n x8.s x8.l),())).bind fun(y9,y10,_)=>
 (q53z n ((Ev.Val.mk y9.kind y9.n y9.s y9.l),())).bind fun(y11,_)=>
 (bif (y11:Int) !=0 then some ((Ev.Val.mk 0 0 (⟨#[]⟩:ByteArray) ([]:List Ev.Val)),())
 else some ((Ev.Val.mk y9.kind y9.n y9.s y9.l),()))
 else
 (bif seq a2.name (⟨#[61]⟩:ByteArray)then
 (ix a3 0).bind fun x15=>
 (ix a3 1).bind fun x16=>
 (q68z n ((Ev.Val.mk x15.kind x15.n x15.s x15.l),(Ev.Val.mk x16.kind x16.n x16.s x16.l),())).bind fun(y17,_)=>some ((Ev.Val.mk y17.kind y17.n y17.s y17.l),())
 else
 (bif seq a2.name (⟨#[60]⟩:ByteArray)then
 (ix a3 0).bind fun x21=>
 (ix a3 1).bind fun x22=>
 (q67z n ((Ev.Val.mk x21.kind x21.n x21.s x21.l),(Ev.Val.mk x22.kind x22.n x22.s x22.l),())).bind fun(y23,_)=>some ((Ev.Val.mk y23.kind y23.n y23.s y23.l),())
 else
 (bif seq a2.name (⟨#[60,61]⟩:ByteArray)then
 (ix a3 1).bind fun x27=>
 (ix a3 0).bind fun x28=>
 (q67z n ((Ev.Val.mk x27.kind x27.n x27.s x27.l),(Ev.Val.mk x28.kind x28.n x28.s x28.l),())).bind fun(y29,_)=>
 (q50z ((Ev.Val.mk y29.kind y29.n y29.s y29.l),())).bind fun(y30,_)=>some ((Ev.Val.mk y30.kind y30.n y30.s y30.l),())
 else
 (bif seq a2.name (⟨#[97,110,100]⟩:ByteArray)then
 (ix a3 0).bind fun x34=>
 (q50z ((Ev.Val.mk x34.kind x34.n x34.s x34.l),())).bind fun(y35,_)=>
 (ix a3 1).bind fun x36=>
 (q50z ((Ev.Val.mk x36.kind x36.n x36.s x36.l),())).bind fun(y37,_)=>
 (q49z ((Ev.Val.mk y35.kind y35.n y35.s y35.l),(Ev.Val.mk y37.kind y37.n y37.s y37.l),())).bind fun(y38,_)=>
 (q50z ((Ev.Val.mk y38.kind y38.n y38.s y38.l),())).bind fun(y39,_)=>some ((Ev.Val.mk y39.kind y39.n y39.s y39.l),())
 else
 (bif seq a2.name (⟨#[111,114]⟩:ByteArray)then
 (ix a3 0).bind fun x43=>
 (ix a3 1).bind fun x44=>
 (q49z ((Ev.Val.mk x43.kind x43.n x43.s x43.l),(Ev.Val.mk x44.kind x44.n x44.s x44.l),())).bind fun(y45,_)=>some ((Ev.Val.mk y45.kind y45.n y45.s y45.l),())
 else
 (bif seq a2.name (⟨#[110,111,116]⟩:ByteArray)then
 (ix a3 0).bind fun x46=>
 (q50z ((Ev.Val.mk x46.kind x46.n x46.s x46.l),())).bind fun(y47,_)=>some ((Ev.Val.mk y47.kind y47.n y47.s y47.l),())
 else
 (bif seq a2.name (⟨#[110,117,108,108]⟩:ByteArray)then
 (ix a3 0).bind fun x48=>
 (q65z ((x48.kind:Int)==0,())).bind fun(y49,_)=>some ((Ev.Val.mk y49.kind y49.n y49.s y49.l),())
 else
 (bif seq a2.name (⟨#[105,110]⟩:ByteArray)then
 (ix a3 1).bind fun x50=>
 (bif (x50.kind:Int) !=4 then some ((Ev.Val.mk 0 0 (⟨#[]⟩:ByteArray) ([]:List Ev.Val)),())
 else
 (q65z (false,())).bind fun(y51,_)=>
 (ix a3 1).bind fun x52=>
 a0k (fun rc67=>n0h n rc67 (fun(o65,o66,_)=>some ((Ev.Val.mk o66.1.kind o66.1.n o66.1.s o66.1.l),())) (fun(_)=>none)) (n) (a3,x52.l,(x52.l.length:Int),0,((Ev.Val.mk 0 0 (⟨#[]⟩:ByteArray) ([]:List Ev.Val)),()),((Ev.Val.mk y51.kind y51.n y51.s y51.l),()),()))
 else
 (bif seq a2.name (⟨#[115,105,122,101]⟩:ByteArray)then
 (ix a3 0).bind fun x68=>
 (bif (x68.kind:Int)==3 then
 (ix a3 0).bind fun x69=>some ((Ev.Val.mk 2 ((b0k x69.s).length:Int) (⟨#[]⟩:ByteArray) ([]:List Ev.Val)),())
 else
 (bif (x68.kind:Int)==4 then
 (ix a3 0).bind fun x70=>some ((Ev.Val.mk 2 (x70.l.length:Int) (⟨#[]⟩:ByteArray) ([]:List Ev.Val)),())
 else some ((Ev.Val.mk 0 0 (⟨#[]⟩:ByteArray) ([]:List Ev.Val)),())))
 else
 (bif seq a2.name (⟨#[104,101,97,100]⟩:ByteArray)then
 (ix a3 0).bind fun x71=>
 (bif (x71.kind:Int)==4 then
 (ix a3 0).bind fun x72=>
 (bif decide (((x72.l.length:Int):Int) >0)then
 (ix a3 0).bind fun x73=>
 (ix x73.l 0).bind fun x74=>some ((Ev.Val.mk x74.kind x74.n x74.s x74.l),())
 else some ((Ev.Val.mk 0 0 (⟨#[]⟩:ByteArray) ([]:List Ev.Val)),()))
 else some ((Ev.Val.mk 0 0 (⟨#[]⟩:ByteArray) ([]:List Ev.Val)),()))
 else
 (bif seq a2.name (⟨#[99,111,97,108,101,115,99,101]⟩:ByteArray)then
 a0k (fun rc82=>n0i n rc82 (fun(o80,_)=>some ((Ev.Val.mk 0 0 (⟨#[]⟩:ByteArray) ([]:List Ev.Val)),())) (fun(o81,_)=>some ((Ev.Val.mk o81.1.kind o81.1.n o81.1.s o81.1.l),()))) (n) (a3,(a3.length:Int),0,((Ev.Val.mk 0 0 (⟨#[]⟩:ByteArray) ([]:List Ev.Val)),()),())
 else
 (bif seq a2.name (⟨#[108,105,115,116]⟩:ByteArray)then
 (q53z n ((Ev.Val.mk 4 0 (⟨#[]⟩:ByteArray) a3),())).bind fun(y83,_)=>
 (bif (y83:Int)==0 then some ((Ev.Val.mk 4 0 (⟨#[]⟩:ByteArray) a3),())
 else some ((Ev.Val.mk 0 0 (⟨#[]⟩:ByteArray) ([]:List Ev.Val)),()))
 else
 (bif seq a2.name (⟨#[105,100]⟩:ByteArray)then
 (ix a3 0).bind fun x84=>some ((Ev.Val.mk x84.kind x84.n x84.s x84.l),())
 else
 (bif seq a2.name (⟨#[116,121,112,101]⟩:ByteArray)then
 (ix a3 0).bind fun x86=>
 (q33z n ((Ev.Graph.mk a1.g.nodes a1.g.edges a1.g.next),x86.n,())).bind fun(y87,_)=>
 (bif decide ((y87:Int) ≥0)then
 (ix a1.g.edges y87).bind fun x88=>some ((Ev.Val.mk 3 0 x88.type ([]:List Ev.Val)),())
 else some ((Ev.Val.mk 0 0 (⟨#[]⟩:ByteArray) ([]:List Ev.Val)),()))
 else some ((Ev.Val.mk 0 0 (⟨#[]⟩:ByteArray) ([]:List Ev.Val)),()))))))))))))))))
 else
 (bif seq a2.name (⟨#[45]⟩:ByteArray)then
 (bif seq a2.name (⟨#[45]⟩:ByteArray)then
 (ix a3 0).bind fun x92=>
 (ix a3 1).bind fun x93=>
 (q43z n (a2.name,(Ev.Val.mk x92.kind x92.n x92.s x92.l),(Ev.Val.mk x93.kind x93.n x93.s x93.l),())).bind fun(y94,y95,_)=>
 (q53z n ((Ev.Val.mk y94.kind y94.n y94.s y94.l),())).bind fun(y96,_)=>
 (bif (y96:Int) !=0 then some ((Ev.Val.mk 0 0 (⟨#[]⟩:ByteArray) ([]:List Ev.Val)),())
 else some ((Ev.Val.mk y94.kind y94.n y94.s y94.l),()))
 else
 (bif seq a2.name (⟨#[61]⟩:ByteArray)then
 (ix a3 0).bind fun x100=>
 (ix a3 1).bind fun x101=>
 (q68z n ((Ev.Val.mk x100.kind x100.n x100.s x100.l),(Ev.Val.mk x101.kind x101.n x101.s x101.l),())).bind fun(y102,_)=>some ((Ev.Val.mk y102.kind y102.n y102.s y102.l),())
 else
 (bif seq a2.name (⟨#[60]⟩:ByteArray)then
 (ix a3 0).bind fun x106=>
 (ix a3 1).bind fun x107=>
 (q67z n ((Ev.Val.mk x106.kind x106.n x106.s x106.l),(Ev.Val.mk x107.kind x107.n x107.s x107.l),())).bind fun(y108,_)=>some ((Ev.Val.mk y108.kind y108.n y108.s y108.l),())
 else
 (bif seq a2.name (⟨#[60,61]⟩:ByteArray)then
 (ix a3 1).bind fun x112=>
 (ix a3 0).bind fun x113=>
 (q67z n ((Ev.Val.mk x112.kind x112.n x112.s x112.l),(Ev.Val.mk x113.kind x113.n x113.s x113.l),())).bind fun(y114,_)=>
 (q50z ((Ev.Val.mk y114.kind y114.n y114.s y114.l),())).bind fun(y115,_)=>some ((Ev.Val.mk y115.kind y115.n y115.s y115.l),())
 else
 (bif seq a2.name (⟨#[97,110,100]⟩:ByteArray)then
 (ix a3 0).bind fun x119=>
 (q50z ((Ev.Val.mk x119.kind x119.n x119.s x119.l),())).bind fun(y120,_)=>
 (ix a3 1).bind fun x121=>
 (q50z ((Ev.Val.mk x121.kind x121.n x121.s x121.l),())).bind fun(y122,_)=>
 (q49z ((Ev.Val.mk y120.kind y120.n y120.s y120.l),(Ev.Val.mk y122.kind y122.n y122.s y122.l),())).bind fun(y123,_)=>
 (q50z ((Ev.Val.mk y123.kind y123.n y123.s y123.l),())).bind fun(y124,_)=>some ((Ev.Val.mk y124.kind y124.n y124.s y124.l),())
 else
 (bif seq a2.name (⟨#[111,114]⟩:ByteArray)then
 (ix a3 0).bind fun x128=>
 (ix a3 1).bind fun x129=>
 (q49z ((Ev.Val.mk x128.kind x128.n x128.s x128.l),(Ev.Val.mk x129.kind x129.n x129.s x129.l),())).bind fun(y130,_)=>some ((Ev.Val.mk y130.kind y130.n y130.s y130.l),())
 else
 (bif seq a2.name (⟨#[110,111,116]⟩:ByteArray)then
 (ix a3 0).bind fun x131=>
 (q50z ((Ev.Val.mk x131.kind x131.n x131.s x131.l),())).bind fun(y132,_)=>some ((Ev.Val.mk y132.kind y132.n y132.s y132.l),())
 else
 (bif seq a2.name (⟨#[110,117,108,108]⟩:ByteArray)then
 (ix a3 0).bind fun x133=>
 (q65z ((x133.kind:Int)==0,())).bind fun(y134,_)=>some ((Ev.Val.mk y134.kind y134.n y134.s y134.l),())
 else
 (bif seq a2.name (⟨#[105,110]⟩:ByteArray)then
 (ix a3 1).bind fun x135=>
 (bif (x135.kind:Int) !=4 then some ((Ev.Val.mk 0 0 (⟨#[]⟩:ByteArray) ([]:List Ev.Val)),())
 else
 (q65z (false,())).bind fun(y136,_)=>
 (ix a3 1).bind fun x137=>
 a0k (fun rc140=>n0h n rc140 (fun(o138,o139,_)=>some ((Ev.Val.mk o139.1.kind o139.1.n o139.1.s o139.1.l),())) (fun(_)=>none)) (n) (a3,x137.l,(x137.l.length:Int),0,((Ev.Val.mk 0 0 (⟨#[]⟩:ByteArray) ([]:List Ev.Val)),()),((Ev.Val.mk y136.kind y136.n y136.s y136.l),()),()))
 else
 (bif seq a2.name (⟨#[115,105,122,101]⟩:ByteArray)then
 (ix a3 0).bind fun x141=>
 (bif (x141.kind:Int)==3 then
 (ix a3 0).bind fun x142=>some ((Ev.Val.mk 2 ((b0k x142.s).length:Int) (⟨#[]⟩:ByteArray) ([]:List Ev.Val)),())
 else
 (bif (x141.kind:Int)==4 then
 (ix a3 0).bind fun x143=>some ((Ev.Val.mk 2 (x143.l.length:Int) (⟨#[]⟩:ByteArray) ([]:List Ev.Val)),())
 else some ((Ev.Val.mk 0 0 (⟨#[]⟩:ByteArray) ([]:List Ev.Val)),())))
 else
 (bif seq a2.name (⟨#[104,101,97,100]⟩:ByteArray)then
 (ix a3 0).bind fun x144=>
 (bif (x144.kind:Int)==4 then
 (ix a3 0).bind fun x145=>
 (bif decide (((x145.l.length:Int):Int) >0)then
 (ix a3 0).bind fun x146=>
 (ix x146.l 0).bind fun x147=>some ((Ev.Val.mk x147.kind x147.n x147.s x147.l),())
 else some ((Ev.Val.mk 0 0 (⟨#[]⟩:ByteArray) ([]:List Ev.Val)),()))
 else some ((Ev.Val.mk 0 0 (⟨#[]⟩:ByteArray) ([]:List Ev.Val)),()))
 else
 (bif seq a2.name (⟨#[99,111,97,108,101,115,99,101]⟩:ByteArray)then
 a0k (fun rc150=>n0i n rc150 (fun(o148,_)=>some ((Ev.Val.mk 0 0 (⟨#[]⟩:ByteArray) ([]:List Ev.Val)),())) (fun(o149,_)=>some ((Ev.Val.mk o149.1.kind o149.1.n o149.1.s o149.1.l),()))) (n) (a3,(a3.length:Int),0,((Ev.Val.mk 0 0 (⟨#[]⟩:ByteArray) ([]:List Ev.Val)),()),())
 else
 (bif seq a2.name (⟨#[108,105,115,116]⟩:ByteArray)then
 (q53z n ((Ev.Val.mk 4 0 (⟨#[]⟩:ByteArray) a3),())).bind fun(y151,_)=>
 (bif (y151:Int)==0 then some ((Ev.Val.mk 4 0 (⟨#[]⟩:ByteArray) a3),())
 else some ((Ev.Val.mk 0 0 (⟨#[]⟩:ByteArray) ([]:List Ev.Val)),()))
 else
 (bif seq a2.name (⟨#[105,100]⟩:ByteArray)then
 (ix a3 0).bind fun x152=>some ((Ev.Val.mk x152.kind x152.n x152.s x152.l),())
 else
 (bif seq a2.name (⟨#[116,121,112,101]⟩:ByteArray)then
 (ix a3 0).bind fun x154=>
 (q33z n ((Ev.Graph.mk a1.g.nodes a1.g.edges a1.g.next),x154.n,())).bind fun(y155,_)=>
 (bif decide ((y155:Int) ≥0)then
 (ix a1.g.edges y155).bind fun x156=>some ((Ev.Val.mk 3 0 x156.type ([]:List Ev.Val)),())
 else some ((Ev.Val.mk 0 0 (⟨#[]⟩:ByteArray) ([]:List Ev.Val)),()))
 else some ((Ev.Val.mk 0 0 (⟨#[]⟩:ByteArray) ([]:List Ev.Val)),()))))))))))))))))
 else
 (bif seq a2.name (⟨#[42]⟩:ByteArray)then
 (ix a3 0).bind fun x160=>
 (ix a3 1).bind fun x161=>
 (q43z n (a2.name,(Ev.Val.mk x160.kind x160.n x160.s x160.l),(Ev.Val.mk x161.kind x161.n x161.s x161.l),())).bind fun(y162,y163,_)=>
 (q53z n ((Ev.Val.mk y162.kind y162.n y162.s y162.l),())).bind fun(y164,_)=>
 (bif (y164:Int) !=0 then some ((Ev.Val.mk 0 0 (⟨#[]⟩:ByteArray) ([]:List Ev.Val)),())
 else some ((Ev.Val.mk y162.kind y162.n y162.s y162.l),()))
 else
 (bif seq a2.name (⟨#[61]⟩:ByteArray)then
 (ix a3 0).bind fun x168=>
 (ix a3 1).bind fun x169=>
 (q68z n ((Ev.Val.mk x168.kind x168.n x168.s x168.l),(Ev.Val.mk x169.kind x169.n x169.s x169.l),())).bind fun(y170,_)=>some ((Ev.Val.mk y170.kind y170.n y170.s y170.l),())
 else
 (bif seq a2.name (⟨#[60]⟩:ByteArray)then
 (ix a3 0).bind fun x174=>
 (ix a3 1).bind fun x175=>
 (q67z n ((Ev.Val.mk x174.kind x174.n x174.s x174.l),(Ev.Val.mk x175.kind x175.n x175.s x175.l),())).bind fun(y176,_)=>some ((Ev.Val.mk y176.kind y176.n y176.s y176.l),())
 else
 (bif seq a2.name (⟨#[60,61]⟩:ByteArray)then
 (ix a3 1).bind fun x180=>
 (ix a3 0).bind fun x181=>
 (q67z n ((Ev.Val.mk x180.kind x180.n x180.s x180.l),(Ev.Val.mk x181.kind x181.n x181.s x181.l),())).bind fun(y182,_)=>
 (q50z ((Ev.Val.mk y182.kind y182.n y182.s y182.l),())).bind fun(y183,_)=>some ((Ev.Val.mk y183.kind y183.n y183.s y183.l),())
 else
 (bif seq a2.name (⟨#[97,110,100]⟩:ByteArray)then
 (ix a3 0).bind fun x187=>
 (q50z ((Ev.Val.mk x187.kind x187.n x187.s x187.l),())).bind fun(y188,_)=>
 (ix a3 1).bind fun x189=>
 (q50z ((Ev.Val.mk x189.kind x189.n x189.s x189.l),())).bind fun(y190,_)=>
 (q49z ((Ev.Val.mk y188.kind y188.n y188.s y188.l),(Ev.Val.mk y190.kind y190.n y190.s y190.l),())).bind fun(y191,_)=>
 (q50z ((Ev.Val.mk y191.kind y191.n y191.s y191.l),())).bind fun(y192,_)=>some ((Ev.Val.mk y192.kind y192.n y192.s y192.l),())
 else
 (bif seq a2.name (⟨#[111,114]⟩:ByteArray)then
 (ix a3 0).bind fun x196=>
 (ix a3 1).bind fun x197=>
 (q49z ((Ev.Val.mk x196.kind x196.n x196.s x196.l),(Ev.Val.mk x197.kind x197.n x197.s x197.l),())).bind fun(y198,_)=>some ((Ev.Val.mk y198.kind y198.n y198.s y198.l),())
 else
 (bif seq a2.name (⟨#[110,111,116]⟩:ByteArray)then
 (ix a3 0).bind fun x199=>
 (q50z ((Ev.Val.mk x199.kind x199.n x199.s x199.l),())).bind fun(y200,_)=>some ((Ev.Val.mk y200.kind y200.n y200.s y200.l),())
 else
 (bif seq a2.name (⟨#[110,117,108,108]⟩:ByteArray)then
 (ix a3 0).bind fun x201=>
 (q65z ((x201.kind:Int)==0,())).bind fun(y202,_)=>some ((Ev.Val.mk y202.kind y202.n y202.s y202.l),())
 else
 (bif seq a2.name (⟨#[105,110]⟩:ByteArray)then
 (ix a3 1).bind fun x203=>
 (bif (x203.kind:Int) !=4 then some ((Ev.Val.mk 0 0 (⟨#[]⟩:ByteArray) ([]:List Ev.Val)),())
 else
 (q65z (false,())).bind fun(y204,_)=>
 (ix a3 1).bind fun x205=>
 a0k (fun rc208=>n0h n rc208 (fun(o206,o207,_)=>some ((Ev.Val.mk o207.1.kind o207.1.n o207.1.s o207.1.l),())) (fun(_)=>none)) (n) (a3,x205.l,(x205.l.length:Int),0,((Ev.Val.mk 0 0 (⟨#[]⟩:ByteArray) ([]:List Ev.Val)),()),((Ev.Val.mk y204.kind y204.n y204.s y204.l),()),()))
 else
 (bif seq a2.name (⟨#[115,105,122,101]⟩:ByteArray)then
 (ix a3 0).bind fun x209=>
 (bif (x209.kind:Int)==3 then
 (ix a3 0).bind fun x210=>some ((Ev.Val.mk 2 ((b0k x210.s).length:Int) (⟨#[]⟩:ByteArray) ([]:List Ev.Val)),())
 else
 (bif (x209.kind:Int)==4 then
 (ix a3 0).bind fun x211=>some ((Ev.Val.mk 2 (x211.l.length:Int) (⟨#[]⟩:ByteArray) ([]:List Ev.Val)),())
 else some ((Ev.Val.mk 0 0 (⟨#[]⟩:ByteArray) ([]:List Ev.Val)),())))
 else
 (bif seq a2.name (⟨#[104,101,97,100]⟩:ByteArray)then
 (ix a3 0).bind fun x212=>
 (bif (x212.kind:Int)==4 then
 (ix a3 0).bind fun x213=>
 (bif decide (((x213.l.length:Int):Int) >0)then
 (ix a3 0).bind fun x214=>
 (ix x214.l 0).bind fun x215=>some ((Ev.Val.mk x215.kind x215.n x215.s x215.l),())
 else some ((Ev.Val.mk 0 0 (⟨#[]⟩:ByteArray) ([]:List Ev.Val)),()))
 else some ((Ev.Val.mk 0 0 (⟨#[]⟩:ByteArray) ([]:List Ev.Val)),()))
 else
 (bif seq a2.name (⟨#[99,111,97,108,101,115,99,101]⟩:ByteArray)then
 a0k (fun rc218=>n0i n rc218 (fun(o216,_)=>some ((Ev.Val.mk 0 0 (⟨#[]⟩:ByteArray) ([]:List Ev.Val)),())) (fun(o217,_)=>some ((Ev.Val.mk o217.1.kind o217.1.n o217.1.s o217.1.l),()))) (n) (a3,(a3.length:Int),0,((Ev.Val.mk 0 0 (⟨#[]⟩:ByteArray) ([]:List Ev.Val)),()),())
 else
 (bif seq a2.name (⟨#[108,105,115,116]⟩:ByteArray)then
 (q53z n ((Ev.Val.mk 4 0 (⟨#[]⟩:ByteArray) a3),())).bind fun(y219,_)=>
 (bif (y219:Int)==0 then some ((Ev.Val.mk 4 0 (⟨#[]⟩:ByteArray) a3),())
 else some ((Ev.Val.mk 0 0 (⟨#[]⟩:ByteArray) ([]:List Ev.Val)),()))
 else
 (bif seq a2.name (⟨#[105,100]⟩:ByteArray)then
 (ix a3 0).bind fun x220=>some ((Ev.Val.mk x220.kind x220.n x220.s x220.l),())
 else
 (bif seq a2.name (⟨#[116,121,112,101]⟩:ByteArray)then
 (ix a3 0).bind fun x222=>
 (q33z n ((Ev.Graph.mk a1.g.nodes a1.g.edges a1.g.next),x222.n,())).bind fun(y223,_)=>
 (bif decide ((y223:Int) ≥0)then
 (ix a1.g.edges y223).bind fun x224=>some ((Ev.Val.mk 3 0 x224.type ([]:List Ev.Val)),())
 else some ((Ev.Val.mk 0 0 (⟨#[]⟩:ByteArray) ([]:List Ev.Val)),()))
 else some ((Ev.Val.mk 0 0 (⟨#[]⟩:ByteArray) ([]:List Ev.Val)),()))))))))))))))))))
def y0m{ρ:Type}(self_q35z:Ev.Envr×Ev.Term×Unit→Option (Ev.Val×Unit))(n:Nat)(rec:(List Ev.Term)×Int×Int×(Ev.Envr×Unit)×(Ev.Term×Unit)×(Ev.Val×Unit)×(List Ev.Val)×Unit→Option ρ)(kx:(Ev.Envr×Unit)×(Ev.Term×Unit)×(Ev.Val×Unit)×(List Ev.Val)×Unit→Option ρ)(kr:Unit→Option ρ):(List Ev.Term)×Int×Int×(Ev.Envr×Unit)×(Ev.Term×Unit)×(Ev.Val×Unit)×(List Ev.Val)×Unit→Option ρ:=
 fun(v8,v9,v10,o11,o12,o13,o14,_)=>
 (bif decide ((v10:Int)<v9)then
 (ix v8 v10).bind fun x15=>
 (self_q35z ((Ev.Envr.mk (Ev.Graph.mk o11.1.g.nodes o11.1.g.edges o11.1.g.next) o11.1.at_),(Ev.Term.mk x15.kind (Ev.Val.mk x15.v.kind x15.v.n x15.v.s x15.v.l) x15.name x15.a),())).bind fun(y16,_)=>
 ck (room (o14++([(Ev.Val.mk y16.kind y16.n y16.s y16.l)]:List Ev.Val)).length 56) (rec (v8,v9,IntKind.wrap .i64 (v10+1),((Ev.Envr.mk (Ev.Graph.mk o11.1.g.nodes o11.1.g.edges o11.1.g.next) o11.1.at_),()),((Ev.Term.mk o12.1.kind (Ev.Val.mk o12.1.v.kind o12.1.v.n o12.1.v.s o12.1.v.l) o12.1.name o12.1.a),()),((Ev.Val.mk o13.1.kind o13.1.n o13.1.s o13.1.l),()),o14++([(Ev.Val.mk y16.kind y16.n y16.s y16.l)]:List Ev.Val),()))
 else kx (((Ev.Envr.mk (Ev.Graph.mk o11.1.g.nodes o11.1.g.edges o11.1.g.next) o11.1.at_),()),((Ev.Term.mk o12.1.kind (Ev.Val.mk o12.1.v.kind o12.1.v.n o12.1.v.s o12.1.v.l) o12.1.name o12.1.a),()),((Ev.Val.mk o13.1.kind o13.1.n o13.1.s o13.1.l),()),o14,()))
def k0n{ρ:Type}(self_q35z:Ev.Envr×Ev.Term×Unit→Option (Ev.Val×Unit))(n:Nat)(kr:Unit→Option ρ):Int→Ev.Term→((Ev.Envr×Unit)×(Ev.Term×Unit)×(Ev.Val×Unit)×(List Ev.Val)×Unit)→(((Ev.Envr×Unit)×(Ev.Term×Unit)×(Ev.Val×Unit)×(List Ev.Val)×Unit)→Option ρ)→Option ρ:=
 fun v10 x15 (o11,o12,o13,o14,_) rec=>
 (self_q35z ((Ev.Envr.mk (Ev.Graph.mk o11.1.g.nodes o11.1.g.edges o11.1.g.next) o11.1.at_),(Ev.Term.mk x15.kind (Ev.Val.mk x15.v.kind x15.v.n x15.v.s x15.v.l) x15.name x15.a),())).bind fun(y16,_)=>
 ck (room (o14++([(Ev.Val.mk y16.kind y16.n y16.s y16.l)]:List Ev.Val)).length 56) (rec (((Ev.Envr.mk (Ev.Graph.mk o11.1.g.nodes o11.1.g.edges o11.1.g.next) o11.1.at_),()),((Ev.Term.mk o12.1.kind (Ev.Val.mk o12.1.v.kind o12.1.v.n o12.1.v.s o12.1.v.l) o12.1.name o12.1.a),()),((Ev.Val.mk o13.1.kind o13.1.n o13.1.s o13.1.l),()),o14++([(Ev.Val.mk y16.kind y16.n y16.s y16.l)]:List Ev.Val),()))
theorem m0k{ρ:Type}(self_q35z:Ev.Envr×Ev.Term×Unit→Option (Ev.Val×Unit))(n:Nat)(kx:(Ev.Envr×Unit)×(Ev.Term×Unit)×(Ev.Val×Unit)×(List Ev.Val)×Unit→Option ρ)(kr:Unit→Option ρ)(l:List Ev.Term)(fuel:Nat)(o11:Ev.Envr×Unit)(o12:Ev.Term×Unit)(o13:Ev.Val×Unit)(o14:List Ev.Val)(hl:l.length≤9223372036854775807)(hf:l.length<fuel):
  a0k (fun rc=>y0m self_q35z n rc kx kr) fuel (l,(l.length:Int),0,o11,o12,o13,o14,())=a0i (k0n self_q35z n kr) (fun(o11,o12,o13,o14,_)=>kx (((Ev.Envr.mk (Ev.Graph.mk o11.1.g.nodes o11.1.g.edges o11.1.g.next) o11.1.at_),()),((Ev.Term.mk o12.1.kind (Ev.Val.mk o12.1.v.kind o12.1.v.n o12.1.v.s o12.1.v.l) o12.1.name o12.1.a),()),((Ev.Val.mk o13.1.kind o13.1.n o13.1.s o13.1.l),()),o14,())) 0 l (o11,o12,o13,o14,()):=
 a0h l (fun i (o11,o12,o13,o14,_)=>(l,(l.length:Int),i,o11,o12,o13,o14,())) _ _ _ (fun rec i s=>rfl) hl fuel (o11,o12,o13,o14,()) hf
def u0h(self_q35z:Ev.Envr×Ev.Term×Unit→Option (Ev.Val×Unit))(n:Nat):Ev.Envr×Ev.Term×Unit→Option (Ev.Val×Unit):=
 fun(a1,a2,_)=>
 (bif (a2.kind:Int)==1 then
 (q66z n ((Ev.Val.mk a2.v.kind a2.v.n a2.v.s a2.v.l),())).bind fun(y3,_)=>some ((Ev.Val.mk y3.kind y3.n y3.s y3.l),())
 else
 (bif (a2.kind:Int)==2 then some ((Ev.Val.mk 2 (b0c .str .i64 0 a1.at_ a2.name) (⟨#[]⟩:ByteArray) ([]:List Ev.Val)),())
 else
 (bif (a2.kind:Int)==3 then
 (ix a2.a 0).bind fun x6=>
 (q36z n ((Ev.Envr.mk (Ev.Graph.mk a1.g.nodes a1.g.edges a1.g.next) a1.at_),(b0c .str .i64 0 a1.at_ x6.name),a2.name,())).bind fun(y7,_)=>some ((Ev.Val.mk y7.kind y7.n y7.s y7.l),())
 else
 a0k (fun rc22=>y0m self_q35z n rc22 (fun(o17,o18,o19,o20,_)=>
 (q39z n ((Ev.Envr.mk (Ev.Graph.mk o17.1.g.nodes o17.1.g.edges o17.1.g.next) o17.1.at_),(Ev.Term.mk o18.1.kind (Ev.Val.mk o18.1.v.kind o18.1.v.n o18.1.v.s o18.1.v.l) o18.1.name o18.1.a),o20,())).bind fun(y21,_)=>some ((Ev.Val.mk y21.kind y21.n y21.s y21.l),())) (fun(_)=>none)) (n) (a2.a,(a2.a.length:Int),0,((Ev.Envr.mk (Ev.Graph.mk a1.g.nodes a1.g.edges a1.g.next) a1.at_),()),((Ev.Term.mk a2.kind (Ev.Val.mk a2.v.kind a2.v.n a2.v.s a2.v.l) a2.name a2.a),()),((Ev.Val.mk 0 0 (⟨#[]⟩:ByteArray) ([]:List Ev.Val)),()),([]:List Ev.Val),()))))
def q35z:Nat→Ev.Envr×Ev.Term×Unit→Option (Ev.Val×Unit)
 | 0,_=>none
 | n+1,x=>u0h (q35z n) n x
def y0o{ρ:Type}(n:Nat)(rec:(List Ev.Term)×Int×Int×(Ev.Envr×Unit)×Unit→Option ρ)(kx:Unit→Option ρ)(kr:Bool×Unit→Option ρ):(List Ev.Term)×Int×Int×(Ev.Envr×Unit)×Unit→Option ρ:=
 fun(v3,v4,v5,o6,_)=>
 (bif decide ((v5:Int)<v4)then
 (ix v3 v5).bind fun x7=>
 (q35z n ((Ev.Envr.mk (Ev.Graph.mk o6.1.g.nodes o6.1.g.edges o6.1.g.next) o6.1.at_),(Ev.Term.mk x7.kind (Ev.Val.mk x7.v.kind x7.v.n x7.v.s x7.v.l) x7.name x7.a),())).bind fun(y8,_)=>
 (q64z ((Ev.Val.mk y8.kind y8.n y8.s y8.l),())).bind fun(y9,y10,_)=>
 (bif (!y10) || (!y9)then kr (false,())
 else rec (v3,v4,IntKind.wrap .i64 (v5+1),((Ev.Envr.mk (Ev.Graph.mk o6.1.g.nodes o6.1.g.edges o6.1.g.next) o6.1.at_),()),()))
 else kx (()))
def p0l{ρ:Type}(n:Nat)(kr:Bool×Unit→Option ρ):Int→Ev.Term→((Ev.Envr×Unit)×Unit)→(((Ev.Envr×Unit)×Unit)→Option ρ)→Option ρ:=
 fun v5 x7 (o6,_) rec=>
 (q35z n ((Ev.Envr.mk (Ev.Graph.mk o6.1.g.nodes o6.1.g.edges o6.1.g.next) o6.1.at_),(Ev.Term.mk x7.kind (Ev.Val.mk x7.v.kind x7.v.n x7.v.s x7.v.l) x7.name x7.a),())).bind fun(y8,_)=>
 (q64z ((Ev.Val.mk y8.kind y8.n y8.s y8.l),())).bind fun(y9,y10,_)=>
 (bif (!y10) || (!y9)then kr (false,())
 else rec (((Ev.Envr.mk (Ev.Graph.mk o6.1.g.nodes o6.1.g.edges o6.1.g.next) o6.1.at_),()),()))
theorem m0p{ρ:Type}(n:Nat)(kx:Unit→Option ρ)(kr:Bool×Unit→Option ρ)(l:List Ev.Term)(fuel:Nat)(o6:Ev.Envr×Unit)(hl:l.length≤9223372036854775807)(hf:l.length<fuel):
  a0k (fun rc=>y0o n rc kx kr) fuel (l,(l.length:Int),0,o6,())=a0i (p0l n kr) (fun(o6,_)=>kx (())) 0 l (o6,()):=
 a0h l (fun i (o6,_)=>(l,(l.length:Int),i,o6,())) _ _ _ (fun rec i s=>rfl) hl fuel (o6,()) hf
def q29z(n:Nat):Ev.Envr×(List Ev.Term)×Unit→Option (Bool×Unit):=
 fun(a1,a2,_)=>
 a0k (fun rc12=>y0o n rc12 (fun(_)=>some (true,())) (fun(v11,_)=>some (v11,()))) (n) (a2,(a2.length:Int),0,((Ev.Envr.mk (Ev.Graph.mk a1.g.nodes a1.g.edges a1.g.next) a1.at_),()),())
def q46z:(List Int)×Unit×(List (List Int))×(Bool×Unit)×Unit→Option ((List Int)×Unit×(List (List Int))×(Bool×Unit)×Unit):=
 fun(o1,o2,o3,o4,_)=>
 (bif ((o3.length:Int):Int)==2000 then some (o1,(()),o3,(true,()),())
 else
 (q10z (o1,())).bind fun(o6,_)=>
 ck (room (o3++([o6]:List (List Int))).length 24) (some (o1,(()),o3++([o6]:List (List Int)),(o4.1,()),())))
def q18z(n:Nat):Int×Ev.Node×(Ev.Query×Ev.Graph×(List (List (Ev.Pair×Bool)))×Unit)×Unit→Option (Bool×(Ev.Query×Ev.Graph×(List (List (Ev.Pair×Bool)))×Unit)×Unit):=
 fun(a1,a2,o3,_)=>
 (ix o3.1.dots a1).bind fun x4=>
 (bif seq x4.label (⟨#[]⟩:ByteArray)then some (true,((Ev.Query.mk o3.1.dots o3.1.arrows o3.1.wher o3.1.items o3.1.dist),(Ev.Graph.mk o3.2.1.nodes o3.2.1.edges o3.2.1.next),o3.2.2.1,()),())
 else
 (q7z n (a2.labels,x4.label,())).bind fun(y5,_)=>some (y5,((Ev.Query.mk o3.1.dots o3.1.arrows o3.1.wher o3.1.items o3.1.dist),(Ev.Graph.mk o3.2.1.nodes o3.2.1.edges o3.2.1.next),o3.2.2.1,()),()))
def m0w{ρ:Type}(n:Nat)(rec:Int×Int×Int×(Ev.Query×Ev.Graph×(List (List (Ev.Pair×Bool)))×Unit)×(List Int)×Unit→Option ρ)(kx:(Ev.Query×Ev.Graph×(List (List (Ev.Pair×Bool)))×Unit)×(List Int)×Unit→Option ρ)(kr:Bool×(Ev.Query×Ev.Graph×(List (List (Ev.Pair×Bool)))×Unit)×(List Int)×Unit→Option ρ):Int×Int×Int×(Ev.Query×Ev.Graph×(List (List (Ev.Pair×Bool)))×Unit)×(List Int)×Unit→Option ρ:=
 fun(v4,v5,v6,o7,o8,_)=>
 (bif decide ((v6:Int)<v5)then
 (ix o7.1.dots v6).bind fun x14=>
 (bif !(seq x14.name (⟨#[]⟩:ByteArray))then
 (ix o7.1.dots v6).bind fun x15=>
 (ix o7.1.dots v4).bind fun x16=>
 (bif seq x15.name x16.name then
 (ix o8 v6).bind fun _=>
 ((o8)[(v6:Int).toNat]?).bind fun e17=>
 (ix o8 v4).bind fun _=>
 ((o8)[(v4:Int).toNat]?).bind fun e18=>
 (bif (e17:Int) !=e18 then kr (false,((Ev.Query.mk o7.1.dots o7.1.arrows o7.1.wher o7.1.items o7.1.dist),(Ev.Graph.mk o7.2.1.nodes o7.2.1.edges o7.2.1.next),o7.2.2.1,()),o8,())
 else rec (v4,v5,IntKind.wrap .i64 (v6+1),((Ev.Query.mk o7.1.dots o7.1.arrows o7.1.wher o7.1.items o7.1.dist),(Ev.Graph.mk o7.2.1.nodes o7.2.1.edges o7.2.1.next),o7.2.2.1,()),o8,()))
 else rec (v4,v5,IntKind.wrap .i64 (v6+1),((Ev.Query.mk o7.1.dots o7.1.arrows o7.1.wher o7.1.items o7.1.dist),(Ev.Graph.mk o7.2.1.nodes o7.2.1.edges o7.2.1.next),o7.2.2.1,()),o8,()))
 else rec (v4,v5,IntKind.wrap .i64 (v6+1),((Ev.Query.mk o7.1.dots o7.1.arrows o7.1.wher o7.1.items o7.1.dist),(Ev.Graph.mk o7.2.1.nodes o7.2.1.edges o7.2.1.next),o7.2.2.1,()),o8,()))
 else kx (((Ev.Query.mk o7.1.dots o7.1.arrows o7.1.wher o7.1.items o7.1.dist),(Ev.Graph.mk o7.2.1.nodes o7.2.1.edges o7.2.1.next),o7.2.2.1,()),o8,()))
def q16z(n:Nat):Int×(Ev.Query×Ev.Graph×(List (List (Ev.Pair×Bool)))×Unit)×(List Int)×Unit→Option (Bool×(Ev.Query×Ev.Graph×(List (List (Ev.Pair×Bool)))×Unit)×(List Int)×Unit):=
 fun(a1,o2,o3,_)=>
 a0k (fun rc24=>m0w n rc24 (fun(o19,o20,_)=>some (true,((Ev.Query.mk o19.1.dots o19.1.arrows o19.1.wher o19.1.items o19.1.dist),(Ev.Graph.mk o19.2.1.nodes o19.2.1.edges o19.2.1.next),o19.2.2.1,()),o20,())) (fun(v21,o22,o23,_)=>some (v21,((Ev.Query.mk o22.1.dots o22.1.arrows o22.1.wher o22.1.items o22.1.dist),(Ev.Graph.mk o22.2.1.nodes o22.2.1.edges o22.2.1.next),o22.2.2.1,()),o23,()))) (n) (a1,a1,0,((Ev.Query.mk o2.1.dots o2.1.arrows o2.1.wher o2.1.items o2.1.dist),(Ev.Graph.mk o2.2.1.nodes o2.2.1.edges o2.2.1.next),o2.2.2.1,()),o3,())
def a1k{ρ:Type}(self_q6z:Int×(Ev.Query×Ev.Graph×(List (List (Ev.Pair×Bool)))×Unit)×(List Int)×Unit×(List (List Int))×(Bool×Unit)×Unit→Option ((Ev.Query×Ev.Graph×(List (List (Ev.Pair×Bool)))×Unit)×(List Int)×Unit×(List (List Int))×(Bool×Unit)×Unit))(n:Nat)(rec:Int×Int×Int×Int×(List Ev.Node)×Int×Int×(List Ev.Edg)×Int×Int×(Ev.Arrow×Unit)×(Ev.Query×Ev.Graph×(List (List (Ev.Pair×Bool)))×Unit)×Unit×(List (List Int))×(Bool×Unit)×(List Int)×Unit→Option ρ)(kx:Int×Int×(List Ev.Node)×Int×Int×(Ev.Query×Ev.Graph×(List (List (Ev.Pair×Bool)))×Unit)×Unit×(List (List Int))×(Bool×Unit)×(List Int)×Unit→Option ρ)(kr:Unit→Option ρ):Int×Int×Int×Int×(List Ev.Node)×Int×Int×(List Ev.Edg)×Int×Int×(Ev.Arrow×Unit)×(Ev.Query×Ev.Graph×(List (List (Ev.Pair×Bool)))×Unit)×Unit×(List (List Int))×(Bool×Unit)×(List Int)×Unit→Option ρ:=
 fun(v79,v80,v81,v82,v83,v84,v85,v86,v87,v88,o89,o90,o91,o92,o93,o94,_)=>
 (bif decide ((v88:Int)<v87)then
 (ix v86 v88).bind fun x95=>
 (bif (((x95.src:Int)==v81)&& ((x95.dst:Int)==v82))&& ((seq o89.1.type (⟨#[]⟩:ByteArray)) || (seq x95.type o89.1.type))then
 (ix o94 (IntKind.wrap .i64 ((IntKind.wrap .i64 (v80+v79)) - 1))).bind fun _=>
 ((o94)[(IntKind.wrap .i64 ((IntKind.wrap .i64 (v80+v79)) - 1):Int).toNat]?).bind fun e96=>
 (self_q6z (IntKind.wrap .i64 (v79+1),((Ev.Query.mk o90.1.dots o90.1.arrows o90.1.wher o90.1.items o90.1.dist),(Ev.Graph.mk o90.2.1.nodes o90.2.1.edges o90.2.1.next),o90.2.2.1,()),(o94).set ((IntKind.wrap .i64 ((IntKind.wrap .i64 (v80+v79)) - 1):Int).toNat) x95.id,(()),o92,(o93.1,()),())).bind fun(o97,o98,o99,o100,o101,_)=>rec (v79,v80,v81,v82,v83,v84,v85,v86,v87,IntKind.wrap .i64 (v88+1),((Ev.Arrow.mk o89.1.name o89.1.type o89.1.back o89.1.many),()),((Ev.Query.mk o97.1.dots o97.1.arrows o97.1.wher o97.1.items o97.1.dist),(Ev.Graph.mk o97.2.1.nodes o97.2.1.edges o97.2.1.next),o97.2.2.1,()),(()),o100,(o101.1,()),o98,())
 else rec (v79,v80,v81,v82,v83,v84,v85,v86,v87,IntKind.wrap .i64 (v88+1),((Ev.Arrow.mk o89.1.name o89.1.type o89.1.back o89.1.many),()),((Ev.Query.mk o90.1.dots o90.1.arrows o90.1.wher o90.1.items o90.1.dist),(Ev.Graph.mk o90.2.1.nodes o90.2.1.edges o90.2.1.next),o90.2.2.1,()),(()),o92,(o93.1,()),o94,()))
 else kx (v79,v80,v83,v84,v85,((Ev.Query.mk o90.1.dots o90.1.arrows o90.1.wher o90.1.items o90.1.dist),(Ev.Graph.mk o90.2.1.nodes o90.2.1.edges o90.2.1.next),o90.2.2.1,()),(()),o92,(o93.1,()),o94,()))
def e0n{ρ:Type}(self_q6z:Int×(Ev.Query×Ev.Graph×(List (List (Ev.Pair×Bool)))×Unit)×(List Int)×Unit×(List (List Int))×(Bool×Unit)×Unit→Option ((Ev.Query×Ev.Graph×(List (List (Ev.Pair×Bool)))×Unit)×(List Int)×Unit×(List (List Int))×(Bool×Unit)×Unit))(n:Nat)(rec:Int×Int×(List Ev.Node)×Int×Int×(Ev.Query×Ev.Graph×(List (List (Ev.Pair×Bool)))×Unit)×Unit×(List (List Int))×(Bool×Unit)×(List Int)×Unit→Option ρ)(kx:(Ev.Query×Ev.Graph×(List (List (Ev.Pair×Bool)))×Unit)×Unit×(List (List Int))×(Bool×Unit)×(List Int)×Unit→Option ρ)(kr:Unit→Option ρ):Int×Int×(List Ev.Node)×Int×Int×(Ev.Query×Ev.Graph×(List (List (Ev.Pair×Bool)))×Unit)×Unit×(List (List Int))×(Bool×Unit)×(List Int)×Unit→Option ρ:=
 fun(v47,v48,v49,v50,v51,o52,o53,o54,o55,o56,_)=>
 (bif decide ((v51:Int)<v50)then
 (ix v49 v51).bind fun x57=>
 (q18z n (v47,(Ev.Node.mk x57.id x57.labels x57.props),((Ev.Query.mk o52.1.dots o52.1.arrows o52.1.wher o52.1.items o52.1.dist),(Ev.Graph.mk o52.2.1.nodes o52.2.1.edges o52.2.1.next),o52.2.2.1,()),())).bind fun(y58,o59,_)=>
 (bif !y58 then rec (v47,v48,v49,v50,IntKind.wrap .i64 (v51+1),((Ev.Query.mk o59.1.dots o59.1.arrows o59.1.wher o59.1.items o59.1.dist),(Ev.Graph.mk o59.2.1.nodes o59.2.1.edges o59.2.1.next),o59.2.2.1,()),(()),o54,(o55.1,()),o56,())
 else
 (ix o56 v47).bind fun _=>
 ((o56)[(v47:Int).toNat]?).bind fun e60=>
 (q16z n (v47,((Ev.Query.mk o59.1.dots o59.1.arrows o59.1.wher o59.1.items o59.1.dist),(Ev.Graph.mk o59.2.1.nodes o59.2.1.edges o59.2.1.next),o59.2.2.1,()),(o56).set ((v47:Int).toNat) x57.id,())).bind fun(y61,o62,o63,_)=>
 (bif !y61 then rec (v47,v48,v49,v50,IntKind.wrap .i64 (v51+1),((Ev.Query.mk o62.1.dots o62.1.arrows o62.1.wher o62.1.items o62.1.dist),(Ev.Graph.mk o62.2.1.nodes o62.2.1.edges o62.2.1.next),o62.2.2.1,()),(()),o54,(o55.1,()),o63,())
 else
 (bif (v47:Int)==0 then
 (self_q6z (1,((Ev.Query.mk o62.1.dots o62.1.arrows o62.1.wher o62.1.items o62.1.dist),(Ev.Graph.mk o62.2.1.nodes o62.2.1.edges o62.2.1.next),o62.2.2.1,()),o63,(()),o54,(o55.1,()),())).bind fun(o64,o65,o66,o67,o68,_)=>rec (v47,v48,v49,v50,IntKind.wrap .i64 (v51+1),((Ev.Query.mk o64.1.dots o64.1.arrows o64.1.wher o64.1.items o64.1.dist),(Ev.Graph.mk o64.2.1.nodes o64.2.1.edges o64.2.1.next),o64.2.2.1,()),(()),o67,(o68.1,()),o65,())
 else
 (ix o62.1.arrows (IntKind.wrap .i64 (v47 - 1))).bind fun x69=>
 (ix o63 (IntKind.wrap .i64 (v47 - 1))).bind fun _=>
 ((o63)[(IntKind.wrap .i64 (v47 - 1):Int).toNat]?).bind fun e71=>
 (bif x69.back then
 (bif x69.many then
 (ix o62.2.2.1 (IntKind.wrap .i64 (v47 - 1))).bind fun x72=>
 (bif (b0c .pair .bool false x72 (Ev.Pair.mk x57.id e71))then
 (ix o63 (IntKind.wrap .i64 ((IntKind.wrap .i64 (v48+v47)) - 1))).bind fun _=>
 ((o63)[(IntKind.wrap .i64 ((IntKind.wrap .i64 (v48+v47)) - 1):Int).toNat]?).bind fun e73=>
 (self_q6z (IntKind.wrap .i64 (v47+1),((Ev.Query.mk o62.1.dots o62.1.arrows o62.1.wher o62.1.items o62.1.dist),(Ev.Graph.mk o62.2.1.nodes o62.2.1.edges o62.2.1.next),o62.2.2.1,()),(o63).set ((IntKind.wrap .i64 ((IntKind.wrap .i64 (v48+v47)) - 1):Int).toNat) 0,(()),o54,(o55.1,()),())).bind fun(o74,o75,o76,o77,o78,_)=>rec (v47,v48,v49,v50,IntKind.wrap .i64 (v51+1),((Ev.Query.mk o74.1.dots o74.1.arrows o74.1.wher o74.1.items o74.1.dist),(Ev.Graph.mk o74.2.1.nodes o74.2.1.edges o74.2.1.next),o74.2.2.1,()),(()),o77,(o78.1,()),o75,())
 else rec (v47,v48,v49,v50,IntKind.wrap .i64 (v51+1),((Ev.Query.mk o62.1.dots o62.1.arrows o62.1.wher o62.1.items o62.1.dist),(Ev.Graph.mk o62.2.1.nodes o62.2.1.edges o62.2.1.next),o62.2.2.1,()),(()),o54,(o55.1,()),o63,()))
 else
 a0k (fun rc112=>a1k self_q6z n rc112 (fun(v102,v103,v104,v105,v106,o107,o108,o109,o110,o111,_)=>rec (v102,v103,v104,v105,IntKind.wrap .i64 (v106+1),((Ev.Query.mk o107.1.dots o107.1.arrows o107.1.wher o107.1.items o107.1.dist),(Ev.Graph.mk o107.2.1.nodes o107.2.1.edges o107.2.1.next),o107.2.2.1,()),(()),o109,(o110.1,()),o111,())) (fun(_)=>none)) (n) (v47,v48,x57.id,e71,v49,v50,v51,o62.2.1.edges,(o62.2.1.edges.length:Int),0,((Ev.Arrow.mk x69.name x69.type x69.back x69.many),()),((Ev.Query.mk o62.1.dots o62.1.arrows o62.1.wher o62.1.items o62.1.dist),(Ev.Graph.mk o62.2.1.nodes o62.2.1.edges o62.2.1.next),o62.2.2.1,()),(()),o54,(o55.1,()),o63,()))
 else
 (bif x69.many then
 (ix o62.2.2.1 (IntKind.wrap .i64 (v47 - 1))).bind fun x113=>
 (bif (b0c .pair .bool false x113 (Ev.Pair.mk e71 x57.id))then
 (ix o63 (IntKind.wrap .i64 ((IntKind.wrap .i64 (v48+v47)) - 1))).bind fun _=>
 ((o63)[(IntKind.wrap .i64 ((IntKind.wrap .i64 (v48+v47)) - 1):Int).toNat]?).bind fun e114=>
 (self_q6z (IntKind.wrap .i64 (v47+1),((Ev.Query.mk o62.1.dots o62.1.arrows o62.1.wher o62.1.items o62.1.dist),(Ev.Graph.mk o62.2.1.nodes o62.2.1.edges o62.2.1.next),o62.2.2.1,()),(o63).set ((IntKind.wrap .i64 ((IntKind.wrap .i64 (v48+v47)) - 1):Int).toNat) 0,(()),o54,(o55.1,()),())).bind fun(o115,o116,o117,o118,o119,_)=>rec (v47,v48,v49,v50,IntKind.wrap .i64 (v51+1),((Ev.Query.mk o115.1.dots o115.1.arrows o115.1.wher o115.1.items o115.1.dist),(Ev.Graph.mk o115.2.1.nodes o115.2.1.edges o115.2.1.next),o115.2.2.1,()),(()),o118,(o119.1,()),o116,())
 else rec (v47,v48,v49,v50,IntKind.wrap .i64 (v51+1),((Ev.Query.mk o62.1.dots o62.1.arrows o62.1.wher o62.1.items o62.1.dist),(Ev.Graph.mk o62.2.1.nodes o62.2.1.edges o62.2.1.next),o62.2.2.1,()),(()),o54,(o55.1,()),o63,()))
 else
 a0k (fun rc130=>a1k self_q6z n rc130 (fun(v120,v121,v122,v123,v124,o125,o126,o127,o128,o129,_)=>rec (v120,v121,v122,v123,IntKind.wrap .i64 (v124+1),((Ev.Query.mk o125.1.dots o125.1.arrows o125.1.wher o125.1.items o125.1.dist),(Ev.Graph.mk o125.2.1.nodes o125.2.1.edges o125.2.1.next),o125.2.2.1,()),(()),o127,(o128.1,()),o129,())) (fun(_)=>none)) (n) (v47,v48,e71,x57.id,v49,v50,v51,o62.2.1.edges,(o62.2.1.edges.length:Int),0,((Ev.Arrow.mk x69.name x69.type x69.back x69.many),()),((Ev.Query.mk o62.1.dots o62.1.arrows o62.1.wher o62.1.items o62.1.dist),(Ev.Graph.mk o62.2.1.nodes o62.2.1.edges o62.2.1.next),o62.2.2.1,()),(()),o54,(o55.1,()),o63,()))))))
 else kx (((Ev.Query.mk o52.1.dots o52.1.arrows o52.1.wher o52.1.items o52.1.dist),(Ev.Graph.mk o52.2.1.nodes o52.2.1.edges o52.2.1.next),o52.2.2.1,()),(()),o54,(o55.1,()),o56,()))
def o0x{ρ:Type}(self_q6z:Int×(Ev.Query×Ev.Graph×(List (List (Ev.Pair×Bool)))×Unit)×(List Int)×Unit×(List (List Int))×(Bool×Unit)×Unit→Option ((Ev.Query×Ev.Graph×(List (List (Ev.Pair×Bool)))×Unit)×(List Int)×Unit×(List (List Int))×(Bool×Unit)×Unit))(n:Nat)(kr:Unit→Option ρ):Int→Ev.Edg→(Int×Int×Int×Int×(List Ev.Node)×Int×Int×(Ev.Arrow×Unit)×(Ev.Query×Ev.Graph×(List (List (Ev.Pair×Bool)))×Unit)×Unit×(List (List Int))×(Bool×Unit)×(List Int)×Unit)→((Int×Int×Int×Int×(List Ev.Node)×Int×Int×(Ev.Arrow×Unit)×(Ev.Query×Ev.Graph×(List (List (Ev.Pair×Bool)))×Unit)×Unit×(List (List Int))×(Bool×Unit)×(List Int)×Unit)→Option ρ)→Option ρ:=
 fun v88 x95 (v79,v80,v81,v82,v83,v84,v85,o89,o90,o91,o92,o93,o94,_) rec=>
 (bif (((x95.src:Int)==v81)&& ((x95.dst:Int)==v82))&& ((seq o89.1.type (⟨#[]⟩:ByteArray)) || (seq x95.type o89.1.type))then
 (ix o94 (IntKind.wrap .i64 ((IntKind.wrap .i64 (v80+v79)) - 1))).bind fun _=>
 ((o94)[(IntKind.wrap .i64 ((IntKind.wrap .i64 (v80+v79)) - 1):Int).toNat]?).bind fun e96=>
 (self_q6z (IntKind.wrap .i64 (v79+1),((Ev.Query.mk o90.1.dots o90.1.arrows o90.1.wher o90.1.items o90.1.dist),(Ev.Graph.mk o90.2.1.nodes o90.2.1.edges o90.2.1.next),o90.2.2.1,()),(o94).set ((IntKind.wrap .i64 ((IntKind.wrap .i64 (v80+v79)) - 1):Int).toNat) x95.id,(()),o92,(o93.1,()),())).bind fun(o97,o98,o99,o100,o101,_)=>rec (v79,v80,v81,v82,v83,v84,v85,((Ev.Arrow.mk o89.1.name o89.1.type o89.1.back o89.1.many),()),((Ev.Query.mk o97.1.dots o97.1.arrows o97.1.wher o97.1.items o97.1.dist),(Ev.Graph.mk o97.2.1.nodes o97.2.1.edges o97.2.1.next),o97.2.2.1,()),(()),o100,(o101.1,()),o98,())
 else rec (v79,v80,v81,v82,v83,v84,v85,((Ev.Arrow.mk o89.1.name o89.1.type o89.1.back o89.1.many),()),((Ev.Query.mk o90.1.dots o90.1.arrows o90.1.wher o90.1.items o90.1.dist),(Ev.Graph.mk o90.2.1.nodes o90.2.1.edges o90.2.1.next),o90.2.2.1,()),(()),o92,(o93.1,()),o94,()))
theorem l0k{ρ:Type}(self_q6z:Int×(Ev.Query×Ev.Graph×(List (List (Ev.Pair×Bool)))×Unit)×(List Int)×Unit×(List (List Int))×(Bool×Unit)×Unit→Option ((Ev.Query×Ev.Graph×(List (List (Ev.Pair×Bool)))×Unit)×(List Int)×Unit×(List (List Int))×(Bool×Unit)×Unit))(n:Nat)(kx:Int×Int×(List Ev.Node)×Int×Int×(Ev.Query×Ev.Graph×(List (List (Ev.Pair×Bool)))×Unit)×Unit×(List (List Int))×(Bool×Unit)×(List Int)×Unit→Option ρ)(kr:Unit→Option ρ)(l:List Ev.Edg)(fuel:Nat)(v79:Int)(v80:Int)(v81:Int)(v82:Int)(v83:List Ev.Node)(v84:Int)(v85:Int)(o89:Ev.Arrow×Unit)(o90:Ev.Query×Ev.Graph×(List (List (Ev.Pair×Bool)))×Unit)(o91:Unit)(o92:List (List Int))(o93:Bool×Unit)(o94:List Int)(hl:l.length≤9223372036854775807)(hf:l.length<fuel):
  a0k (fun rc=>a1k self_q6z n rc kx kr) fuel (v79,v80,v81,v82,v83,v84,v85,l,(l.length:Int),0,o89,o90,o91,o92,o93,o94,())=a0i (o0x self_q6z n kr) (fun(v79,v80,v81,v82,v83,v84,v85,o89,o90,o91,o92,o93,o94,_)=>kx (v79,v80,v83,v84,v85,((Ev.Query.mk o90.1.dots o90.1.arrows o90.1.wher o90.1.items o90.1.dist),(Ev.Graph.mk o90.2.1.nodes o90.2.1.edges o90.2.1.next),o90.2.2.1,()),(()),o92,(o93.1,()),o94,())) 0 l (v79,v80,v81,v82,v83,v84,v85,o89,o90,o91,o92,o93,o94,()):=
 a0h l (fun i (v79,v80,v81,v82,v83,v84,v85,o89,o90,o91,o92,o93,o94,_)=>(v79,v80,v81,v82,v83,v84,v85,l,(l.length:Int),i,o89,o90,o91,o92,o93,o94,())) _ _ _ (fun rec i s=>rfl) hl fuel (v79,v80,v81,v82,v83,v84,v85,o89,o90,o91,o92,o93,o94,()) hf
def a2e(self_q6z:Int×(Ev.Query×Ev.Graph×(List (List (Ev.Pair×Bool)))×Unit)×(List Int)×Unit×(List (List Int))×(Bool×Unit)×Unit→Option ((Ev.Query×Ev.Graph×(List (List (Ev.Pair×Bool)))×Unit)×(List Int)×Unit×(List (List Int))×(Bool×Unit)×Unit))(n:Nat):Int×(Ev.Query×Ev.Graph×(List (List (Ev.Pair×Bool)))×Unit)×(List Int)×Unit×(List (List Int))×(Bool×Unit)×Unit→Option ((Ev.Query×Ev.Graph×(List (List (Ev.Pair×Bool)))×Unit)×(List Int)×Unit×(List (List Int))×(Bool×Unit)×Unit):=
 fun(a1,o2,o3,o4,o5,o6,_)=>
 (bif (a1:Int)==(o2.1.dots.length:Int)then
 dem2 (
 (q19z n (((Ev.Query.mk o2.1.dots o2.1.arrows o2.1.wher o2.1.items o2.1.dist),(Ev.Graph.mk o2.2.1.nodes o2.2.1.edges o2.2.1.next),o2.2.2.1,()),o3,())).bind fun(y7,o8,o9,_)=>
 (q29z n ((Ev.Envr.mk (Ev.Graph.mk y7.g.nodes y7.g.edges y7.g.next) y7.at_),o8.1.wher,())).bind fun(y10,_)=>
 (bif y10 then
 (q46z (o9,(()),o5,(o6.1,()),())).bind fun(o11,o12,o13,o14,_)=>some (((Ev.Query.mk o8.1.dots o8.1.arrows o8.1.wher o8.1.items o8.1.dist),(Ev.Graph.mk o8.2.1.nodes o8.2.1.edges o8.2.1.next),o8.2.2.1,()),o11,(()),o13,(o14.1,()),())
 else some (((Ev.Query.mk o8.1.dots o8.1.arrows o8.1.wher o8.1.items o8.1.dist),(Ev.Graph.mk o8.2.1.nodes o8.2.1.edges o8.2.1.next),o8.2.2.1,()),o9,(()),o5,(o6.1,()),()))) (
 dem2 (
 (q19z n (((Ev.Query.mk o2.1.dots o2.1.arrows o2.1.wher o2.1.items o2.1.dist),(Ev.Graph.mk o2.2.1.nodes o2.2.1.edges o2.2.1.next),o2.2.2.1,()),o3,())).bind fun(y15,o16,o17,_)=>
 (q29z n ((Ev.Envr.mk (Ev.Graph.mk y15.g.nodes y15.g.edges y15.g.next) y15.at_),o16.1.wher,())).bind fun(y18,_)=>
 (bif y18 then
 (q46z (o17,(()),o5,(o6.1,()),())).bind fun(o19,o20,o21,o22,_)=>some (((Ev.Query.mk o16.1.dots o16.1.arrows o16.1.wher o16.1.items o16.1.dist),(Ev.Graph.mk o16.2.1.nodes o16.2.1.edges o16.2.1.next),o16.2.2.1,()),o19,(()),o21,(o22.1,()),())
 else some (((Ev.Query.mk o16.1.dots o16.1.arrows o16.1.wher o16.1.items o16.1.dist),(Ev.Graph.mk o16.2.1.nodes o16.2.1.edges o16.2.1.next),o16.2.2.1,()),o17,(()),o5,(o6.1,()),()))) (
 dem2 (
 (q19z n (((Ev.Query.mk o2.1.dots o2.1.arrows o2.1.wher o2.1.items o2.1.dist),(Ev.Graph.mk o2.2.1.nodes o2.2.1.edges o2.2.1.next),o2.2.2.1,()),o3,())).bind fun(y23,o24,o25,_)=>
 (q29z n ((Ev.Envr.mk (Ev.Graph.mk y23.g.nodes y23.g.edges y23.g.next) y23.at_),o24.1.wher,())).bind fun(y26,_)=>
 (bif y26 then
 (q46z (o25,(()),o5,(o6.1,()),())).bind fun(o27,o28,o29,o30,_)=>some (((Ev.Query.mk o24.1.dots o24.1.arrows o24.1.wher o24.1.items o24.1.dist),(Ev.Graph.mk o24.2.1.nodes o24.2.1.edges o24.2.1.next),o24.2.2.1,()),o27,(()),o29,(o30.1,()),())
 else some (((Ev.Query.mk o24.1.dots o24.1.arrows o24.1.wher o24.1.items o24.1.dist),(Ev.Graph.mk o24.2.1.nodes o24.2.1.edges o24.2.1.next),o24.2.2.1,()),o25,(()),o5,(o6.1,()),()))) (
 dem2 (
 (q19z n (((Ev.Query.mk o2.1.dots o2.1.arrows o2.1.wher o2.1.items o2.1.dist),(Ev.Graph.mk o2.2.1.nodes o2.2.1.edges o2.2.1.next),o2.2.2.1,()),o3,())).bind fun(y31,o32,o33,_)=>
 (q29z n ((Ev.Envr.mk (Ev.Graph.mk y31.g.nodes y31.g.edges y31.g.next) y31.at_),o32.1.wher,())).bind fun(y34,_)=>
 (bif y34 then
 (q46z (o33,(()),o5,(o6.1,()),())).bind fun(o35,o36,o37,o38,_)=>some (((Ev.Query.mk o32.1.dots o32.1.arrows o32.1.wher o32.1.items o32.1.dist),(Ev.Graph.mk o32.2.1.nodes o32.2.1.edges o32.2.1.next),o32.2.2.1,()),o35,(()),o37,(o38.1,()),())
 else some (((Ev.Query.mk o32.1.dots o32.1.arrows o32.1.wher o32.1.items o32.1.dist),(Ev.Graph.mk o32.2.1.nodes o32.2.1.edges o32.2.1.next),o32.2.2.1,()),o33,(()),o5,(o6.1,()),()))) (
 (q19z n (((Ev.Query.mk o2.1.dots o2.1.arrows o2.1.wher o2.1.items o2.1.dist),(Ev.Graph.mk o2.2.1.nodes o2.2.1.edges o2.2.1.next),o2.2.2.1,()),o3,())).bind fun(y39,o40,o41,_)=>
 (q29z n ((Ev.Envr.mk (Ev.Graph.mk y39.g.nodes y39.g.edges y39.g.next) y39.at_),o2.1.wher,())).bind fun(y42,_)=>
 (bif y42 then
 (q46z (o41,(()),o5,(o6.1,()),())).bind fun(o43,o44,o45,o46,_)=>some (((Ev.Query.mk o40.1.dots o40.1.arrows o40.1.wher o40.1.items o40.1.dist),(Ev.Graph.mk o40.2.1.nodes o40.2.1.edges o40.2.1.next),o40.2.2.1,()),o43,(()),o45,(o46.1,()),())
 else some (((Ev.Query.mk o40.1.dots o40.1.arrows o40.1.wher o40.1.items o40.1.dist),(Ev.Graph.mk o40.2.1.nodes o40.2.1.edges o40.2.1.next),o40.2.2.1,()),o41,(()),o5,(o6.1,()),()))))))
 else
 a0k (fun rc136=>e0n self_q6z n rc136 (fun(o131,o132,o133,o134,o135,_)=>some (((Ev.Query.mk o131.1.dots o131.1.arrows o131.1.wher o131.1.items o131.1.dist),(Ev.Graph.mk o131.2.1.nodes o131.2.1.edges o131.2.1.next),o131.2.2.1,()),o135,(()),o133,(o134.1,()),())) (fun(_)=>none)) (n) (a1,(o2.1.dots.length:Int),o2.2.1.nodes,(o2.2.1.nodes.length:Int),0,((Ev.Query.mk o2.1.dots o2.1.arrows o2.1.wher o2.1.items o2.1.dist),(Ev.Graph.mk o2.2.1.nodes o2.2.1.edges o2.2.1.next),o2.2.2.1,()),(()),o5,(o6.1,()),o3,()))
def q6z:Nat→Int×(Ev.Query×Ev.Graph×(List (List (Ev.Pair×Bool)))×Unit)×(List Int)×Unit×(List (List Int))×(Bool×Unit)×Unit→Option ((Ev.Query×Ev.Graph×(List (List (Ev.Pair×Bool)))×Unit)×(List Int)×Unit×(List (List Int))×(Bool×Unit)×Unit)
 | 0,_=>none
 | n+1,x=>a2e (q6z n) n x
def q5z(n:Nat):(Ev.Query×Ev.Graph×(List (List (Ev.Pair×Bool)))×Unit)×Unit×(List (List Int))×(Bool×Unit)×Unit→Option ((Ev.Query×Ev.Graph×(List (List (Ev.Pair×Bool)))×Unit)×Unit×(List (List Int))×(Bool×Unit)×Unit):=
 fun(o1,o2,o3,o4,_)=>
 (cnt? (IntKind.wrap .i64 ((o1.1.dots.length:Int)+(o1.1.arrows.length:Int)))).bind fun m6=>
 ck (room m6 8) (
 (q6z n (0,((Ev.Query.mk o1.1.dots o1.1.arrows o1.1.wher o1.1.items o1.1.dist),(Ev.Graph.mk o1.2.1.nodes o1.2.1.edges o1.2.1.next),o1.2.2.1,()),(List.replicate m6 0),(()),o3,(o4.1,()),())).bind fun(o7,o8,o9,o10,o11,_)=>some (((Ev.Query.mk o7.1.dots o7.1.arrows o7.1.wher o7.1.items o7.1.dist),(Ev.Graph.mk o7.2.1.nodes o7.2.1.edges o7.2.1.next),o7.2.2.1,()),(()),o10,(o11.1,()),()))
def b0p(n:Nat):Ev.Query×Ev.Graph×Unit→Option ((List (List Int))×Int×Unit):=
 fun(a1,a2,_)=>
 (q47z n ((Ev.Query.mk a1.dots a1.arrows a1.wher a1.items a1.dist),())).bind fun(y3,_)=>
 (bif (y3:Int) !=0 then some (([]:List (List Int)),y3,())
 else
 (q44z n ((Ev.Graph.mk a2.nodes a2.edges a2.next),())).bind fun(y4,_)=>
 (bif (y4:Int) !=0 then some (([]:List (List Int)),y4,())
 else
 (f0j n ((Ev.Query.mk a1.dots a1.arrows a1.wher a1.items a1.dist),(Ev.Graph.mk a2.nodes a2.edges a2.next),())).bind fun(o5,_)=>
 (q5z n (((Ev.Query.mk o5.1.dots o5.1.arrows o5.1.wher o5.1.items o5.1.dist),(Ev.Graph.mk o5.2.1.nodes o5.2.1.edges o5.2.1.next),o5.2.2.1,()),(()),([]:List (List Int)),(false,()),())).bind fun(o6,o7,o8,o9,_)=>
 (bif o9.1 then some (([]:List (List Int)),10,())
 else
 (sfLL (o8,())).bind fun(o10,_)=>some (o10,0,()))))
def q26z:Int×Unit→Option (Ev.Val×Unit):=
 fun(a1,_)=>some ((Ev.Val.mk 2 a1 (⟨#[]⟩:ByteArray) ([]:List Ev.Val)),())
def q23z:ByteArray×(List Ev.Term)×Unit→Option (Ev.Term×Unit):=
 fun(a1,a2,_)=>some ((Ev.Term.mk 4 (Ev.Val.mk 0 0 (⟨#[]⟩:ByteArray) ([]:List Ev.Val)) a1 a2),())
def q17z:Unit→Option (Ev.Graph×Unit):=
 fun(_)=>some ((Ev.Graph.mk ([(Ev.Node.mk 1 ([]:List ByteArray) ([]:List Ev.Prp)),(Ev.Node.mk 2 ([]:List ByteArray) ([]:List Ev.Prp)),(Ev.Node.mk 3 ([(⟨#[65]⟩:ByteArray)]:List ByteArray) ([]:List Ev.Prp))]:List Ev.Node) ([(Ev.Edg.mk 4 1 2 (⟨#[75]⟩:ByteArray) ([]:List Ev.Prp)),(Ev.Edg.mk 5 2 3 (⟨#[75]⟩:ByteArray) ([]:List Ev.Prp))]:List Ev.Edg) 6),())
def y0s{ρ:Type}(n:Nat)(rec:(List Int)×(List Int)×Int×Int×Unit→Option ρ)(kx:Unit→Option ρ)(kr:Bool×Unit→Option ρ):(List Int)×(List Int)×Int×Int×Unit→Option ρ:=
 fun(v3,v4,v5,v6,_)=>
 (bif decide ((v6:Int)<v5)then
 (ix v3 v6).bind fun x9=>
 (ix v4 v6).bind fun x10=>
 (bif (x9:Int) !=x10 then kr (false,())
 else rec (v3,v4,v5,IntKind.wrap .i64 (v6+1),()))
 else kx (()))
def u1e{ρ:Type}(n:Nat)(kr:Bool×Unit→Option ρ):Int→Int→((List Int)×Unit)→(((List Int)×Unit)→Option ρ)→Option ρ:=
 fun v6 x9 (v4,_) rec=>
 (ix v4 v6).bind fun x10=>
 (bif (x9:Int) !=x10 then kr (false,())
 else rec (v4,()))
theorem s0s{ρ:Type}(n:Nat)(kx:Unit→Option ρ)(kr:Bool×Unit→Option ρ)(l:List Int)(fuel:Nat)(v4:List Int)(hl:l.length≤9223372036854775807)(hf:l.length<fuel):
  a0k (fun rc=>y0s n rc kx kr) fuel (l,v4,(l.length:Int),0,())=a0i (u1e n kr) (fun(v4,_)=>kx (())) 0 l (v4,()):=
 a0h l (fun i (v4,_)=>(l,v4,(l.length:Int),i,())) _ _ _ (fun rec i s=>rfl) hl fuel (v4,()) hf
def q13z(n:Nat):(List Int)×(List Int)×Unit→Option (Bool×Unit):=
 fun(a1,a2,_)=>
 (bif ((a1.length:Int):Int) !=(a2.length:Int)then some (false,())
 else
 a0k (fun rc12=>y0s n rc12 (fun(_)=>some (true,())) (fun(v11,_)=>some (v11,()))) (n) (a1,a2,(a1.length:Int),0,()))
def m1m{ρ:Type}(n:Nat)(rec:(List (List Int))×(List (List Int))×Int×Int×Unit→Option ρ)(kx:Unit→Option ρ)(kr:Bool×Unit→Option ρ):(List (List Int))×(List (List Int))×Int×Int×Unit→Option ρ:=
 fun(v3,v4,v5,v6,_)=>
 (bif decide ((v6:Int)<v5)then
 (ix v4 v6).bind fun x7=>
 (ix v3 v6).bind fun x8=>
 (q13z n (x7,x8,())).bind fun(y9,_)=>
 (bif !y9 then kr (false,())
 else rec (v3,v4,v5,IntKind.wrap .i64 (v6+1),()))
 else kx (()))
def b2v{ρ:Type}(n:Nat)(kr:Bool×Unit→Option ρ):Int→((List Int))→((List (List Int))×Unit)→(((List (List Int))×Unit)→Option ρ)→Option ρ:=
 fun v6 x7 (v3,_) rec=>
 (ix v3 v6).bind fun x8=>
 (q13z n (x7,x8,())).bind fun(y9,_)=>
 (bif !y9 then kr (false,())
 else rec (v3,()))
theorem v0z{ρ:Type}(n:Nat)(kx:Unit→Option ρ)(kr:Bool×Unit→Option ρ)(l:List (List Int))(fuel:Nat)(v3:List (List Int))(hl:l.length≤9223372036854775807)(hf:l.length<fuel):
  a0k (fun rc=>m1m n rc kx kr) fuel (v3,l,(l.length:Int),0,())=a0i (b2v n kr) (fun(v3,_)=>kx (())) 0 l (v3,()):=
 a0h l (fun i (v3,_)=>(v3,l,(l.length:Int),i,())) _ _ _ (fun rec i s=>rfl) hl fuel (v3,()) hf
def q4z(n:Nat):(List (List Int))×(List (List Int))×Unit→Option (Bool×Unit):=
 fun(a1,a2,_)=>
 (bif ((a1.length:Int):Int) !=(a2.length:Int)then some (false,())
 else
 a0k (fun rc11=>m1m n rc11 (fun(_)=>some (true,())) (fun(v10,_)=>some (v10,()))) (n) (a2,a1,(a1.length:Int),0,()))
def q14z(n:Nat):Unit→Option (Bool×Unit):=
 fun(_)=>
 (q26z (2,())).bind fun(y1,_)=>
 (q23z ((⟨#[60]⟩:ByteArray),([(Ev.Term.mk 2 (Ev.Val.mk 0 0 (⟨#[]⟩:ByteArray) ([]:List Ev.Val)) (⟨#[97]⟩:ByteArray) ([]:List Ev.Term)),(Ev.Term.mk 1 (Ev.Val.mk y1.kind y1.n y1.s y1.l) (⟨#[]⟩:ByteArray) ([]:List Ev.Term))]:List Ev.Term),())).bind fun(y2,_)=>
 (q17z (())).bind fun(y3,_)=>
 (b0p n ((Ev.Query.mk ([(Ev.Dot.mk (⟨#[97]⟩:ByteArray) (⟨#[]⟩:ByteArray)),(Ev.Dot.mk (⟨#[]⟩:ByteArray) (⟨#[]⟩:ByteArray))]:List Ev.Dot) ([(Ev.Arrow.mk (⟨#[]⟩:ByteArray) (⟨#[]⟩:ByteArray) false true)]:List Ev.Arrow) ([(Ev.Term.mk y2.kind (Ev.Val.mk y2.v.kind y2.v.n y2.v.s y2.v.l) y2.name y2.a)]:List Ev.Term) ([(Ev.Item.mk (⟨#[110]⟩:ByteArray) (⟨#[]⟩:ByteArray) (Ev.Term.mk 2 (Ev.Val.mk 0 0 (⟨#[]⟩:ByteArray) ([]:List Ev.Val)) (⟨#[97]⟩:ByteArray) ([]:List Ev.Term)))]:List Ev.Item) false),(Ev.Graph.mk y3.nodes y3.edges y3.next),())).bind fun(y4,y5,_)=>
 (bif (y5:Int)==0 then
 (q4z n (y4,([([1,2,0]:List Int),([1,3,0]:List Int)]:List (List Int)),())).bind fun(y6,_)=>some (y6,())
 else some (false,()))
def q8z:(List ByteArray)×Unit→Option ((List ByteArray)×Unit):=
 fun(a1,_)=>
 nilq a1 (some (([]:List ByteArray),())) (
 ck (room (([]:List ByteArray)++a1).length 16) (some (([]:List ByteArray)++a1,())))
def w0l{ρ:Type}(n:Nat)(rec:(List Ev.Prp)×Int×Int×(List Ev.Prp)×Unit→Option ρ)(kx:(List Ev.Prp)×Unit→Option ρ)(kr:Unit→Option ρ):(List Ev.Prp)×Int×Int×(List Ev.Prp)×Unit→Option ρ:=
 fun(v2,v3,v4,o5,_)=>
 (bif decide ((v4:Int)<v3)then
 (ix v2 v4).bind fun x6=>
 (q66z n ((Ev.Val.mk x6.val.kind x6.val.n x6.val.s x6.val.l),())).bind fun(y7,_)=>
 ck (room (o5++([(Ev.Prp.mk x6.name (Ev.Val.mk y7.kind y7.n y7.s y7.l))]:List Ev.Prp)).length 72) (rec (v2,v3,IntKind.wrap .i64 (v4+1),o5++([(Ev.Prp.mk x6.name (Ev.Val.mk y7.kind y7.n y7.s y7.l))]:List Ev.Prp),()))
 else kx (o5,()))
def p0o{ρ:Type}(n:Nat)(kr:Unit→Option ρ):Int→Ev.Prp→((List Ev.Prp)×Unit)→(((List Ev.Prp)×Unit)→Option ρ)→Option ρ:=
 fun v4 x6 (o5,_) rec=>
 (q66z n ((Ev.Val.mk x6.val.kind x6.val.n x6.val.s x6.val.l),())).bind fun(y7,_)=>
 ck (room (o5++([(Ev.Prp.mk x6.name (Ev.Val.mk y7.kind y7.n y7.s y7.l))]:List Ev.Prp)).length 72) (rec (o5++([(Ev.Prp.mk x6.name (Ev.Val.mk y7.kind y7.n y7.s y7.l))]:List Ev.Prp),()))
theorem k0k{ρ:Type}(n:Nat)(kx:(List Ev.Prp)×Unit→Option ρ)(kr:Unit→Option ρ)(l:List Ev.Prp)(fuel:Nat)(o5:List Ev.Prp)(hl:l.length≤9223372036854775807)(hf:l.length<fuel):
  a0k (fun rc=>w0l n rc kx kr) fuel (l,(l.length:Int),0,o5,())=a0i (p0o n kr) (fun(o5,_)=>kx (o5,())) 0 l (o5,()):=
 a0h l (fun i (o5,_)=>(l,(l.length:Int),i,o5,())) _ _ _ (fun rec i s=>rfl) hl fuel (o5,()) hf
def q27z(n:Nat):(List Ev.Prp)×Unit→Option ((List Ev.Prp)×Unit):=
 fun(a1,_)=>
 a0k (fun rc9=>w0l n rc9 (fun(o8,_)=>some (o8,())) (fun(_)=>none)) (n) (a1,(a1.length:Int),0,([]:List Ev.Prp),())
def q31z(n:Nat):Ev.Node×Unit→Option (Ev.Node×Unit):=
 fun(a1,_)=>
 (q8z (a1.labels,())).bind fun(y2,_)=>
 (q27z n (a1.props,())).bind fun(y3,_)=>some ((Ev.Node.mk a1.id y2 y3),())
def q30z(n:Nat):Ev.Edg×Unit→Option (Ev.Edg×Unit):=
 fun(a1,_)=>
 (q27z n (a1.props,())).bind fun(y2,_)=>some ((Ev.Edg.mk a1.id a1.src a1.dst a1.type y2),())
def x0o{ρ:Type}(n:Nat)(rec:(List Ev.Node)×Int×Int×(Ev.Graph×Unit)×(Ev.Graph×Unit)×(Int×Unit)×(List Ev.Node)×Unit→Option ρ)(kx:(Ev.Graph×Unit)×(Ev.Graph×Unit)×(Int×Unit)×(List Ev.Node)×Unit→Option ρ)(kr:Unit→Option ρ):(List Ev.Node)×Int×Int×(Ev.Graph×Unit)×(Ev.Graph×Unit)×(Int×Unit)×(List Ev.Node)×Unit→Option ρ:=
 fun(v2,v3,v4,o5,o6,o7,o8,_)=>
 (bif decide ((v4:Int)<v3)then
 (ix v2 v4).bind fun x9=>
 (q31z n ((Ev.Node.mk x9.id x9.labels x9.props),())).bind fun(y11,_)=>
 ck (room (o8++([(Ev.Node.mk y11.id y11.labels y11.props)]:List Ev.Node)).length 56) (rec (v2,v3,IntKind.wrap .i64 (v4+1),((Ev.Graph.mk o5.1.nodes o5.1.edges o5.1.next),()),((Ev.Graph.mk o6.1.nodes o6.1.edges o6.1.next),()),(o7.1,()),o8++([(Ev.Node.mk y11.id y11.labels y11.props)]:List Ev.Node),()))
 else kx (((Ev.Graph.mk o5.1.nodes o5.1.edges o5.1.next),()),((Ev.Graph.mk o6.1.nodes o6.1.edges o6.1.next),()),(o7.1,()),o8,()))
def x0s{ρ:Type}(n:Nat)(rec:(List Ev.Edg)×Int×Int×(Ev.Graph×Unit)×(Int×Unit)×(List Ev.Node)×(List Ev.Edg)×Unit→Option ρ)(kx:(Ev.Graph×Unit)×(Int×Unit)×(List Ev.Node)×(List Ev.Edg)×Unit→Option ρ)(kr:Unit→Option ρ):(List Ev.Edg)×Int×Int×(Ev.Graph×Unit)×(Int×Unit)×(List Ev.Node)×(List Ev.Edg)×Unit→Option ρ:=
 fun(v16,v17,v18,o19,o20,o21,o22,_)=>
 (bif decide ((v18:Int)<v17)then
 (ix v16 v18).bind fun x23=>
 (q30z n ((Ev.Edg.mk x23.id x23.src x23.dst x23.type x23.props),())).bind fun(y25,_)=>
 ck (room (o22++([(Ev.Edg.mk y25.id y25.src y25.dst y25.type y25.props)]:List Ev.Edg)).length 64) (rec (v16,v17,IntKind.wrap .i64 (v18+1),((Ev.Graph.mk o19.1.nodes o19.1.edges o19.1.next),()),(o20.1,()),o21,o22++([(Ev.Edg.mk y25.id y25.src y25.dst y25.type y25.props)]:List Ev.Edg),()))
 else kx (((Ev.Graph.mk o19.1.nodes o19.1.edges o19.1.next),()),(o20.1,()),o21,o22,()))
def p0d{ρ:Type}(n:Nat)(kr:Unit→Option ρ):Int→Ev.Node→((Ev.Graph×Unit)×(Ev.Graph×Unit)×(Int×Unit)×(List Ev.Node)×Unit)→(((Ev.Graph×Unit)×(Ev.Graph×Unit)×(Int×Unit)×(List Ev.Node)×Unit)→Option ρ)→Option ρ:=
 fun v4 x9 (o5,o6,o7,o8,_) rec=>
 (q31z n ((Ev.Node.mk x9.id x9.labels x9.props),())).bind fun(y11,_)=>
 ck (room (o8++([(Ev.Node.mk y11.id y11.labels y11.props)]:List Ev.Node)).length 56) (rec (((Ev.Graph.mk o5.1.nodes o5.1.edges o5.1.next),()),((Ev.Graph.mk o6.1.nodes o6.1.edges o6.1.next),()),(o7.1,()),o8++([(Ev.Node.mk y11.id y11.labels y11.props)]:List Ev.Node),()))
theorem k0u{ρ:Type}(n:Nat)(kx:(Ev.Graph×Unit)×(Ev.Graph×Unit)×(Int×Unit)×(List Ev.Node)×Unit→Option ρ)(kr:Unit→Option ρ)(l:List Ev.Node)(fuel:Nat)(o5:Ev.Graph×Unit)(o6:Ev.Graph×Unit)(o7:Int×Unit)(o8:List Ev.Node)(hl:l.length≤9223372036854775807)(hf:l.length<fuel):
  a0k (fun rc=>x0o n rc kx kr) fuel (l,(l.length:Int),0,o5,o6,o7,o8,())=a0i (p0d n kr) (fun(o5,o6,o7,o8,_)=>kx (((Ev.Graph.mk o5.1.nodes o5.1.edges o5.1.next),()),((Ev.Graph.mk o6.1.nodes o6.1.edges o6.1.next),()),(o7.1,()),o8,())) 0 l (o5,o6,o7,o8,()):=
 a0h l (fun i (o5,o6,o7,o8,_)=>(l,(l.length:Int),i,o5,o6,o7,o8,())) _ _ _ (fun rec i s=>rfl) hl fuel (o5,o6,o7,o8,()) hf
def r0x{ρ:Type}(n:Nat)(kr:Unit→Option ρ):Int→Ev.Edg→((Ev.Graph×Unit)×(Int×Unit)×(List Ev.Node)×(List Ev.Edg)×Unit)→(((Ev.Graph×Unit)×(Int×Unit)×(List Ev.Node)×(List Ev.Edg)×Unit)→Option ρ)→Option ρ:=
 fun v18 x23 (o19,o20,o21,o22,_) rec=>
 (q30z n ((Ev.Edg.mk x23.id x23.src x23.dst x23.type x23.props),())).bind fun(y25,_)=>
 ck (room (o22++([(Ev.Edg.mk y25.id y25.src y25.dst y25.type y25.props)]:List Ev.Edg)).length 64) (rec (((Ev.Graph.mk o19.1.nodes o19.1.edges o19.1.next),()),(o20.1,()),o21,o22++([(Ev.Edg.mk y25.id y25.src y25.dst y25.type y25.props)]:List Ev.Edg),()))
theorem m0b{ρ:Type}(n:Nat)(kx:(Ev.Graph×Unit)×(Int×Unit)×(List Ev.Node)×(List Ev.Edg)×Unit→Option ρ)(kr:Unit→Option ρ)(l:List Ev.Edg)(fuel:Nat)(o19:Ev.Graph×Unit)(o20:Int×Unit)(o21:List Ev.Node)(o22:List Ev.Edg)(hl:l.length≤9223372036854775807)(hf:l.length<fuel):
  a0k (fun rc=>x0s n rc kx kr) fuel (l,(l.length:Int),0,o19,o20,o21,o22,())=a0i (r0x n kr) (fun(o19,o20,o21,o22,_)=>kx (((Ev.Graph.mk o19.1.nodes o19.1.edges o19.1.next),()),(o20.1,()),o21,o22,())) 0 l (o19,o20,o21,o22,()):=
 a0h l (fun i (o19,o20,o21,o22,_)=>(l,(l.length:Int),i,o19,o20,o21,o22,())) _ _ _ (fun rec i s=>rfl) hl fuel (o19,o20,o21,o22,()) hf
def q32z(n:Nat):Ev.Graph×Unit→Option ((Int×Unit)×(List Ev.Node)×(List Ev.Edg)×Unit):=
 fun(a1,_)=>
 a0k (fun rc31=>x0o n rc31 (fun(o12,o13,o14,o15,_)=>
 a0k (fun rc30=>x0s n rc30 (fun(o26,o27,o28,o29,_)=>some ((o27.1,()),o28,o29,())) (fun(_)=>none)) (n) (o12.1.edges,(o12.1.edges.length:Int),0,((Ev.Graph.mk o13.1.nodes o13.1.edges o13.1.next),()),(o14.1,()),o15,([]:List Ev.Edg),())) (fun(_)=>none)) (n) (a1.nodes,(a1.nodes.length:Int),0,((Ev.Graph.mk a1.nodes a1.edges a1.next),()),((Ev.Graph.mk ([]:List Ev.Node) ([]:List Ev.Edg) 0),()),(a1.next,()),([]:List Ev.Node),())
def q34z:Int×((Ev.Graph×(List Int)×Unit)×Unit)×Unit→Option (Int×Unit):=
 fun(a1,a2,_)=>
 (bif (decide ((a1:Int)<0))&& (decide ((a1:Int) ≥(IntKind.wrap .i64 (0 - (a2.1.2.1.length:Int)))))then
 (ix a2.1.2.1 (IntKind.wrap .i64 ((IntKind.wrap .i64 (0 - a1)) - 1))).bind fun x3=>some (x3,())
 else some (a1,()))
def q20z:(Int×Unit)×(List Ev.Node)×(List Ev.Edg)×(List Int)×Unit→Option (Int×Int×(Int×Unit)×(List Ev.Node)×(List Ev.Edg)×(List Int)×Unit):=
 fun(o1,o2,o3,o4,_)=>
 (bif decide ((o1.1:Int) ≥1099511627776)then some (0,10,(o1.1,()),o2,o3,o4,())
 else
 ck (room (o4++([o1.1]:List Int)).length 8) (some (o1.1,0,(IntKind.wrap .i64 (o1.1+1),()),o2,o3,o4++([o1.1]:List Int),())))
def q51z(n:Nat):Ev.Opn×(Int×Unit)×(List Ev.Node)×(List Ev.Edg)×(List Int)×Unit→Option (Int×(Int×Unit)×(List Ev.Node)×(List Ev.Edg)×(List Int)×Unit):=
 fun(a1,o2,o3,o4,o5,_)=>
 (q34z (a1.src,(((Ev.Graph.mk o3 o4 o2.1),o5,()),()),())).bind fun(y6,_)=>
 (q34z (a1.dst,(((Ev.Graph.mk o3 o4 o2.1),o5,()),()),())).bind fun(y7,_)=>
 (q59z n ((Ev.Graph.mk o3 o4 o2.1),y6,())).bind fun(y8,_)=>
 (bif decide ((y8:Int)<0)then some (5,(o2.1,()),o3,o4,o5,())
 else
 (q59z n ((Ev.Graph.mk o3 o4 o2.1),y7,())).bind fun(y9,_)=>
 (bif decide ((y9:Int)<0)then some (5,(o2.1,()),o3,o4,o5,())
 else
 (q60z n (a1.name,())).bind fun(y10,_)=>
 (bif !y10 then some (6,(o2.1,()),o3,o4,o5,())
 else
 (q45z n (a1.props,())).bind fun(y11,_)=>
 (bif (y11:Int) !=0 then some (y11,(o2.1,()),o3,o4,o5,())
 else
 (bif ((o4.length:Int):Int)==60 then some (10,(o2.1,()),o3,o4,o5,())
 else
 (q20z ((o2.1,()),o3,o4,o5,())).bind fun(y12,y13,o14,o15,o16,o17,_)=>
 (q30z n ((Ev.Edg.mk y12 y6 y7 a1.name a1.props),())).bind fun(y19,_)=>
 ck (room (o16++([(Ev.Edg.mk y19.id y19.src y19.dst y19.type y19.props)]:List Ev.Edg)).length 64) (some (y13,(o14.1,()),o15,o16++([(Ev.Edg.mk y19.id y19.src y19.dst y19.type y19.props)]:List Ev.Edg),o17,())))))))
def q52z(n:Nat):Ev.Opn×(Int×Unit)×(List Ev.Node)×(List Ev.Edg)×(List Int)×Unit→Option (Int×(Int×Unit)×(List Ev.Node)×(List Ev.Edg)×(List Int)×Unit):=
 fun(a1,o2,o3,o4,o5,_)=>
 (q42z n (a1.labels,())).bind fun(y6,_)=>
 (bif (y6:Int) !=0 then some (y6,(o2.1,()),o3,o4,o5,())
 else
 (q45z n (a1.props,())).bind fun(y7,_)=>
 (bif (y7:Int) !=0 then some (y7,(o2.1,()),o3,o4,o5,())
 else
 (bif ((o3.length:Int):Int)==40 then some (10,(o2.1,()),o3,o4,o5,())
 else
 (q20z ((o2.1,()),o3,o4,o5,())).bind fun(y8,y9,o10,o11,o12,o13,_)=>
 (q31z n ((Ev.Node.mk y8 a1.labels a1.props),())).bind fun(y15,_)=>
 ck (room (o11++([(Ev.Node.mk y15.id y15.labels y15.props)]:List Ev.Node)).length 56) (some (y9,(o10.1,()),o11++([(Ev.Node.mk y15.id y15.labels y15.props)]:List Ev.Node),o12,o13,())))))
def e0w{ρ:Type}(n:Nat)(rec:(List Ev.Opn)×Int×Int×(Ev.Graph×Unit)×Unit×(List Ev.Node)×(Int×Unit)×(List Ev.Edg)×(List Int)×Unit→Option ρ)(kx:(Ev.Graph×Unit)×(List Ev.Node)×(Int×Unit)×(List Ev.Edg)×(List Int)×Unit→Option ρ)(kr:(List Int)×Int×Int×(Ev.Graph×Unit)×Unit→Option ρ):(List Ev.Opn)×Int×Int×(Ev.Graph×Unit)×Unit×(List Ev.Node)×(Int×Unit)×(List Ev.Edg)×(List Int)×Unit→Option ρ:=
 fun(v7,v8,v9,o10,o11,o12,o13,o14,o15,_)=>
 (bif decide ((v9:Int)<v8)then
 (ix v7 v9).bind fun x16=>
 (bif (decide ((x16.kind:Int) >0))&& (decide ((x16.kind:Int)<8))then
 (bif x16.kind==(1:Int)then
 (q52z n ((Ev.Opn.mk 1 x16.id x16.src x16.dst x16.name (Ev.Val.mk x16.val.kind x16.val.n x16.val.s x16.val.l) x16.labels x16.props),(o13.1,()),o12,o14,o15,())).bind fun(y22,o23,o24,o25,o26,_)=>
 (bif (y22:Int) !=0 then kr (([]:List Int),v9,y22,((Ev.Graph.mk ([]:List Ev.Node) ([]:List Ev.Edg) 0),()),())
 else rec (v7,v8,IntKind.wrap .i64 (v9+1),((Ev.Graph.mk o10.1.nodes o10.1.edges o10.1.next),()),(()),o24,(o23.1,()),o25,o26,()))
 else
 (bif x16.kind==(2:Int)then
 (q51z n ((Ev.Opn.mk 2 x16.id x16.src x16.dst x16.name (Ev.Val.mk x16.val.kind x16.val.n x16.val.s x16.val.l) x16.labels x16.props),(o13.1,()),o12,o14,o15,())).bind fun(y17,o18,o19,o20,o21,_)=>
 (bif (y17:Int) !=0 then kr (([]:List Int),v9,y17,((Ev.Graph.mk ([]:List Ev.Node) ([]:List Ev.Edg) 0),()),())
 else rec (v7,v8,IntKind.wrap .i64 (v9+1),((Ev.Graph.mk o10.1.nodes o10.1.edges o10.1.next),()),(()),o19,(o18.1,()),o20,o21,()))
 else none))
 else kr (([]:List Int),v9,9,((Ev.Graph.mk ([]:List Ev.Node) ([]:List Ev.Edg) 0),()),()))
 else kx (((Ev.Graph.mk o10.1.nodes o10.1.edges o10.1.next),()),o12,(o13.1,()),o14,o15,()))
def i0r{ρ:Type}(n:Nat)(kr:(List Int)×Int×Int×(Ev.Graph×Unit)×Unit→Option ρ):Int→Ev.Opn→((Ev.Graph×Unit)×Unit×(List Ev.Node)×(Int×Unit)×(List Ev.Edg)×(List Int)×Unit)→(((Ev.Graph×Unit)×Unit×(List Ev.Node)×(Int×Unit)×(List Ev.Edg)×(List Int)×Unit)→Option ρ)→Option ρ:=
 fun v9 x16 (o10,o11,o12,o13,o14,o15,_) rec=>
 (bif (decide ((x16.kind:Int) >0))&& (decide ((x16.kind:Int)<8))then
 (bif x16.kind==(1:Int)then
 (q52z n ((Ev.Opn.mk 1 x16.id x16.src x16.dst x16.name (Ev.Val.mk x16.val.kind x16.val.n x16.val.s x16.val.l) x16.labels x16.props),(o13.1,()),o12,o14,o15,())).bind fun(y22,o23,o24,o25,o26,_)=>
 (bif (y22:Int) !=0 then kr (([]:List Int),v9,y22,((Ev.Graph.mk ([]:List Ev.Node) ([]:List Ev.Edg) 0),()),())
 else rec (((Ev.Graph.mk o10.1.nodes o10.1.edges o10.1.next),()),(()),o24,(o23.1,()),o25,o26,()))
 else
 (bif x16.kind==(2:Int)then
 (q51z n ((Ev.Opn.mk 2 x16.id x16.src x16.dst x16.name (Ev.Val.mk x16.val.kind x16.val.n x16.val.s x16.val.l) x16.labels x16.props),(o13.1,()),o12,o14,o15,())).bind fun(y17,o18,o19,o20,o21,_)=>
 (bif (y17:Int) !=0 then kr (([]:List Int),v9,y17,((Ev.Graph.mk ([]:List Ev.Node) ([]:List Ev.Edg) 0),()),())
 else rec (((Ev.Graph.mk o10.1.nodes o10.1.edges o10.1.next),()),(()),o19,(o18.1,()),o20,o21,()))
 else none))
 else kr (([]:List Int),v9,9,((Ev.Graph.mk ([]:List Ev.Node) ([]:List Ev.Edg) 0),()),()))
theorem d0o{ρ:Type}(n:Nat)(kx:(Ev.Graph×Unit)×(List Ev.Node)×(Int×Unit)×(List Ev.Edg)×(List Int)×Unit→Option ρ)(kr:(List Int)×Int×Int×(Ev.Graph×Unit)×Unit→Option ρ)(l:List Ev.Opn)(fuel:Nat)(o10:Ev.Graph×Unit)(o11:Unit)(o12:List Ev.Node)(o13:Int×Unit)(o14:List Ev.Edg)(o15:List Int)(hl:l.length≤9223372036854775807)(hf:l.length<fuel):
  a0k (fun rc=>e0w n rc kx kr) fuel (l,(l.length:Int),0,o10,o11,o12,o13,o14,o15,())=a0i (i0r n kr) (fun(o10,o11,o12,o13,o14,o15,_)=>kx (((Ev.Graph.mk o10.1.nodes o10.1.edges o10.1.next),()),o12,(o13.1,()),o14,o15,())) 0 l (o10,o11,o12,o13,o14,o15,()):=
 a0h l (fun i (o10,o11,o12,o13,o14,o15,_)=>(l,(l.length:Int),i,o10,o11,o12,o13,o14,o15,())) _ _ _ (fun rec i s=>rfl) hl fuel (o10,o11,o12,o13,o14,o15,()) hf
def f0k(n:Nat):Ev.Graph×(List Ev.Opn)×Unit→Option (Ev.Graph×(List Int)×Int×Int×Unit):=
 fun(a1,a2,_)=>
 (q44z n ((Ev.Graph.mk a1.nodes a1.edges a1.next),())).bind fun(y3,_)=>
 (bif (y3:Int) !=0 then some ((Ev.Graph.mk ([]:List Ev.Node) ([]:List Ev.Edg) 0),([]:List Int),0,y3,())
 else
 (bif decide (((a2.length:Int):Int) >20)then some ((Ev.Graph.mk ([]:List Ev.Node) ([]:List Ev.Edg) 0),([]:List Int),0,2,())
 else
 (q32z n ((Ev.Graph.mk a1.nodes a1.edges a1.next),())).bind fun(y4,o5,o6,_)=>
 a0k (fun rc36=>e0w n rc36 (fun(o27,o28,o29,o30,o31,_)=>some ((Ev.Graph.mk o28 o30 o29.1),o31,0,0,())) (fun(v32,v33,v34,o35,_)=>some ((Ev.Graph.mk o35.1.nodes o35.1.edges o35.1.next),v32,v33,v34,()))) (n) (a2,(a2.length:Int),0,((Ev.Graph.mk ([]:List Ev.Node) ([]:List Ev.Edg) 0),()),(()),o5,(y4.1,()),o6,([]:List Int),())))
def w0m{ρ:Type}(n:Nat)(rec:(List Int)×(List Int)×(List Int)×Int×Int×Unit→Option ρ)(kx:(List Int)×(List Int)×Unit→Option ρ)(kr:Int×Unit→Option ρ):(List Int)×(List Int)×(List Int)×Int×Int×Unit→Option ρ:=
 fun(v3,v4,v5,v6,v7,_)=>
 (bif decide ((v7:Int)<v6)then
 (ix v5 v7).bind fun x8=>
 (bif decide ((v7:Int) ≥(v4.length:Int))then kr (1,())
 else
 (ix v4 v7).bind fun x9=>
 (q25z (x8,x9,())).bind fun(y10,_)=>
 (bif (y10:Int) !=0 then kr (y10,())
 else rec (v3,v4,v5,v6,IntKind.wrap .i64 (v7+1),())))
 else kx (v3,v4,()))
def l0d{ρ:Type}(n:Nat)(kr:Int×Unit→Option ρ):Int→Int→((List Int)×(List Int)×Unit)→(((List Int)×(List Int)×Unit)→Option ρ)→Option ρ:=
 fun v7 x8 (v3,v4,_) rec=>
 (bif decide ((v7:Int) ≥(v4.length:Int))then kr (1,())
 else
 (ix v4 v7).bind fun x9=>
 (q25z (x8,x9,())).bind fun(y10,_)=>
 (bif (y10:Int) !=0 then kr (y10,())
 else rec (v3,v4,())))
theorem k0m{ρ:Type}(n:Nat)(kx:(List Int)×(List Int)×Unit→Option ρ)(kr:Int×Unit→Option ρ)(l:List Int)(fuel:Nat)(v3:List Int)(v4:List Int)(hl:l.length≤9223372036854775807)(hf:l.length<fuel):
  a0k (fun rc=>w0m n rc kx kr) fuel (v3,v4,l,(l.length:Int),0,())=a0i (l0d n kr) (fun(v3,v4,_)=>kx (v3,v4,())) 0 l (v3,v4,()):=
 a0h l (fun i (v3,v4,_)=>(v3,v4,l,(l.length:Int),i,())) _ _ _ (fun rec i s=>rfl) hl fuel (v3,v4,()) hf
def q11z(n:Nat):(List Int)×(List Int)×Unit→Option (Int×Unit):=
 fun(a1,a2,_)=>
 a0k (fun rc14=>w0m n rc14 (fun(v11,v12,_)=>
 (bif decide (((v11.length:Int):Int)< (v12.length:Int))then some ((-1),())
 else some (0,()))) (fun(v13,_)=>some (v13,()))) (n) (a1,a2,a1,(a1.length:Int),0,())
def e1f{ρ:Type}(n:Nat)(rec:(List (List Int))×(List Int)×Int×Int×Int×Unit→Option ρ)(kx:(List (List Int))×(List Int)×Int×Int×Unit→Option ρ)(kr:Unit→Option ρ):(List (List Int))×(List Int)×Int×Int×Int×Unit→Option ρ:=
 fun(v3,v4,v5,v6,v7,_)=>
 (bif decide ((v6:Int)<v7)then
 (ix v3 (IntKind.wrap .i64 (bshr .u64 (IntKind.wrap .u64 (IntKind.wrap .i64 (v6+v7))) 1))).bind fun x8=>
 (q11z n (x8,v4,())).bind fun(y9,_)=>
 (bif decide ((y9:Int)<0)then rec (v3,v4,v5,IntKind.wrap .i64 ((IntKind.wrap .i64 (bshr .u64 (IntKind.wrap .u64 (IntKind.wrap .i64 (v6+v7))) 1))+1),v7,())
 else rec (v3,v4,v5,v6,IntKind.wrap .i64 (bshr .u64 (IntKind.wrap .u64 (IntKind.wrap .i64 (v6+v7))) 1),()))
 else kx (v3,v4,v5,v6,()))
def q3z(n:Nat):(List (List Int))×(List Int)×Unit→Option (Int×Bool×Unit):=
 fun(a1,a2,_)=>
 a0k (fun rc16=>e1f n rc16 (fun(v10,v11,v12,v13,_)=>
 (bif decide ((v13:Int)<v12)then
 (ix v10 v13).bind fun x14=>
 (q11z n (x14,v11,())).bind fun(y15,_)=>some (v13,(y15:Int)==0,())
 else some (v13,false,()))) (fun(_)=>none)) (n) (a1,a2,(a1.length:Int),0,(a1.length:Int),())
def w0f{ρ:Type}(n:Nat)(rec:(List (List Int))×(List (List Int))×Int×Int×Unit→Option ρ)(kx:Unit→Option ρ)(kr:Bool×Unit→Option ρ):(List (List Int))×(List (List Int))×Int×Int×Unit→Option ρ:=
 fun(v16,v17,v18,v19,_)=>
 (bif decide ((v19:Int)<v18)then
 (ix v17 v19).bind fun x20=>
 (q3z n (v16,x20,())).bind fun(y21,y22,_)=>
 (bif !y22 then kr (false,())
 else rec (v16,v17,v18,IntKind.wrap .i64 (v19+1),()))
 else kx (()))
def s0a{ρ:Type}(n:Nat)(kr:Bool×Unit→Option ρ):Int→((List Int))→((List (List Int))×Unit)→(((List (List Int))×Unit)→Option ρ)→Option ρ:=
 fun v19 x20 (v16,_) rec=>
 (q3z n (v16,x20,())).bind fun(y21,y22,_)=>
 (bif !y22 then kr (false,())
 else rec (v16,()))
theorem m0n{ρ:Type}(n:Nat)(kx:Unit→Option ρ)(kr:Bool×Unit→Option ρ)(l:List (List Int))(fuel:Nat)(v16:List (List Int))(hl:l.length≤9223372036854775807)(hf:l.length<fuel):
  a0k (fun rc=>w0f n rc kx kr) fuel (v16,l,(l.length:Int),0,())=a0i (s0a n kr) (fun(v16,_)=>kx (())) 0 l (v16,()):=
 a0h l (fun i (v16,_)=>(v16,l,(l.length:Int),i,())) _ _ _ (fun rec i s=>rfl) hl fuel (v16,()) hf
def q12z(n:Nat):Ev.Query×Ev.Graph×Int×Int×ByteArray×Unit→Option (Bool×Unit):=
 fun(a1,a2,a3,a4,a5,_)=>
 (b0p n ((Ev.Query.mk a1.dots a1.arrows ([]:List Ev.Term) a1.items a1.dist),(Ev.Graph.mk a2.nodes a2.edges a2.next),())).bind fun(y6,y7,_)=>
 (q14z n (())).bind fun(y8,_)=>
 (bif (!y8) || ((y7:Int) !=0)then
 (q14z n (())).bind fun(y9,_)=>some (y9,())
 else
 (f0k n ((Ev.Graph.mk a2.nodes a2.edges a2.next),([(Ev.Opn.mk 2 0 a3 a4 a5 (Ev.Val.mk 0 0 (⟨#[]⟩:ByteArray) ([]:List Ev.Val)) ([]:List ByteArray) ([]:List Ev.Prp))]:List Ev.Opn),())).bind fun(y10,y11,y12,y13,_)=>
 (bif (y13:Int) !=0 then some (true,())
 else
 (b0p n ((Ev.Query.mk a1.dots a1.arrows ([]:List Ev.Term) a1.items a1.dist),(Ev.Graph.mk y10.nodes y10.edges y10.next),())).bind fun(y14,y15,_)=>
 (bif (y15:Int) !=0 then some ((y15:Int)==10,())
 else
 a0k (fun rc24=>w0f n rc24 (fun(_)=>some (true,())) (fun(v23,_)=>some (v23,()))) (n) (y14,y6,(y6.length:Int),0,()))))
end Pure

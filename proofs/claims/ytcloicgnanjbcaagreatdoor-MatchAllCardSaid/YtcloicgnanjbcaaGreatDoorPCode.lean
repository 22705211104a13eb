import Derived.Test.YtcloicgnanjbcaaGreatDoorEvLib
import Derived.Test.YtcloicgnanjbcaaGreatDoorPRange
import Derived.Test.YtcloicgnanjbcaaGreatDoorEvIns
import Derived.Test.YtcloicgnanjbcaaGreatDoorEvRise2
import Derived.Test.YtcloicgnanjbcaaGreatDoorEvRng
import Derived.Test.YtcloicgnanjbcaaGreatDoorEvSortL
import Derived.Test.YtcloicgnanjbcaaGreatDoorPNext
import Derived.Test.YtcloicgnanjbcaaGreatDoorEvBuild2
import Derived.Test.YtcloicgnanjbcaaGreatDoorEvBuild3
noncomputable section
namespace Pure
open Esp Ev Go
set_option linter.unusedSimpArgs false
set_option linter.unusedVariables false
abbrev Y0:Type:=List Int
abbrev Y1:Type:=Ev.Query×Ev.Graph×(List (List (Ev.Pair×Bool)))×Unit
abbrev Y2:Type:=ByteArray×Int
abbrev Y3:Type:=List (Ev.Pair×Bool)
abbrev Y4:Type:=Ev.Query×Unit
abbrev Y5:Type:=Ev.Val×Unit
abbrev Y6:Type:=ByteArray×Bool
abbrev Y7:Type:=Ev.Graph×Unit
abbrev Y8:Type:=List Y0
abbrev Y9:Type:=List Y2
abbrev Y10:Type:=Int×Unit
abbrev Y11:Type:=List Ev.Node
abbrev Y12:Type:=List Ev.Val
abbrev Y13:Type:=Bool×Unit
abbrev Y14:Type:=Bool×Y0×Unit
abbrev Y15:Type:=Ev.Dot×Ev.Arrow×List Ev.Pair
abbrev Y16:Type:=List Y6
abbrev Y17:Type:=Ev.Term×Unit
abbrev Y18:Type:=Ev.Node×Unit
abbrev Y19:Type:=Ev.Envr×Unit
abbrev Y20:Type:=Int×Int×ByteArray×Unit
abbrev Y21:Type:=List Y3
abbrev Y22:Type:=Int×Int×Int×Int×Y11×Int×Int×(Ev.Arrow×Unit)×Y1×Unit×Y8×Y13×Y0×Unit
abbrev Y23:Type:=Y1×Y0×Unit×Y8×Y13×Unit
abbrev Y24:Type:=Int×Y21×Int×Y0×Int×Int×Int×Int×Y8×Int×Int×Y11×Int×Int×Y4×Y7×Y8×Y18×(Ev.Arrow×Unit)×Unit
abbrev Y25:Type:=List Ev.Term
abbrev Y26:Type:=List Ev.Arrow
abbrev Y27:Type:=List ByteArray
abbrev Y28:Type:=Ev.Query×Ev.Graph×Unit
abbrev Y29:Type:=List Ev.Prp
abbrev Y30:Type:=List Ev.Item
abbrev Y31:Type:=List Ev.Edg
abbrev Y32:Type:=Y19×Y9×Y1×Y0×Unit
abbrev Y33:Type:=Ev.Pair×Bool
abbrev Y34:Type:=Int×Int×Y7×Unit
abbrev Y35:Type:=Y11×Int×Int×Y11×Int×Int×Y7×Y18×Y18×Y3×Unit
abbrev Y36:Type:=List Ev.Dot
abbrev Y37:Type:=Y4×Y9×Unit
abbrev Y38:Type:=Int×Y0×Bool×Y8×Int×Int×Y4×Y7×Y8×Unit
abbrev Y39:Type:=Y30×Int×Int×Y4×(Ev.Item×Unit)×Y9×Unit
def k1h{ρ:Type}(n:Nat)(kr:Bool×Unit→Option ρ):Int→Int→Unit→(Unit→Option ρ)→Option ρ:=
 fun v4 c5 (_) rec=>
 (bif (!((((decide ((c5:Int) ≥97))&& (decide ((c5:Int)≤122))) || ((decide ((c5:Int) ≥65))&& (decide ((c5:Int)≤90)))) || ((c5:Int)==95)))&& ((((v4:Int)==0) || (decide ((c5:Int)<48))) || (decide ((c5:Int) >57)))then kr (false,())
 else rec (()))
def p1c{ρ:Type}(n:Nat)(rec:ByteArray×Int×Int×Unit→Option ρ)(kx:Unit→Option ρ)(kr:Bool×Unit→Option ρ):ByteArray×Int×Int×Unit→Option ρ:=
 fun(v2,v3,v4,_)=>
 (bif decide ((v4:Int)<v3)then
 (sat v2 v4).bind fun c5=>k1h n kr v4 c5 (()) (fun(_)=>rec (v2,v3,IntKind.wrap .i64 (v4+1),()))
 else kx (()))
def q96z(n:Nat):ByteArray×Unit→Option Y13:=
 fun(a1,_)=>
 (bif (seq a1 (⟨#[]⟩:ByteArray)) || (decide (((a1.size:Int):Int) >12))then some (false,())
 else
 a0a (fun rc7=>p1c n rc7 (fun(_)=>some (true,())) (fun(v6,_)=>some (v6,()))) (n) (a1,(a1.size:Int),0,()))
def w1u{ρ:Type}(n:Nat)(rec:Y27×ByteArray×Int×Int×Unit→Option ρ)(kx:Unit→Option ρ)(kr:Int×Unit→Option ρ):Y27×ByteArray×Int×Int×Unit→Option ρ:=
 fun(v3,v4,v5,v6,_)=>
 (bif decide ((v6:Int)<v5)then
 (ix v3 v6).bind fun x7=>
 (bif seq v4 x7 then kr (v6,())
 else rec (v3,v4,v5,IntKind.wrap .i64 (v6+1),()))
 else kx (()))
def q8z(n:Nat):Y27×ByteArray×Unit→Option Y10:=
 fun(a1,a2,_)=>
 a0a (fun rc9=>w1u n rc9 (fun(_)=>some ((-1),())) (fun(v8,_)=>some (v8,()))) (n) (a1,a2,(a1.length:Int),0,())
def q7z(n:Nat):Y27×ByteArray×Unit→Option Y13:=
 fun(a1,a2,_)=>
 (q8z n (a1,a2,())).bind fun(y3,_)=>some (decide ((y3:Int) ≥0),())
def q78z(n:Nat):ByteArray×Unit→Option Y13:=
 fun(a1,_)=>
 (q7z n (([(⟨#[109,97,116,99,104]⟩:ByteArray),(⟨#[119,104,101,114,101]⟩:ByteArray),(⟨#[114,101,116,117,114,110]⟩:ByteArray),(⟨#[100,105,115,116,105,110,99,116]⟩:ByteArray),(⟨#[97,115]⟩:ByteArray),(⟨#[97,110,100]⟩:ByteArray),(⟨#[111,114]⟩:ByteArray),(⟨#[110,111,116]⟩:ByteArray),(⟨#[105,110]⟩:ByteArray),(⟨#[105,115]⟩:ByteArray),(⟨#[110,117,108,108]⟩:ByteArray),(⟨#[116,114,117,101]⟩:ByteArray),(⟨#[102,97,108,115,101]⟩:ByteArray),(⟨#[99,111,117,110,116]⟩:ByteArray),(⟨#[115,117,109]⟩:ByteArray),(⟨#[109,105,110]⟩:ByteArray),(⟨#[109,97,120]⟩:ByteArray),(⟨#[115,105,122,101]⟩:ByteArray),(⟨#[104,101,97,100]⟩:ByteArray),(⟨#[99,111,97,108,101,115,99,101]⟩:ByteArray),(⟨#[105,100]⟩:ByteArray),(⟨#[116,121,112,101]⟩:ByteArray)]:List ByteArray),a1,())).bind fun(y2,_)=>some (y2,())
def d0u(n:Nat):ByteArray×Unit→Option Y13:=
 fun(a1,_)=>
 (q96z n (a1,())).bind fun(y2,_)=>
 (bif y2 then
 (q78z n (a1,())).bind fun(y3,_)=>some (!y3,())
 else some (false,()))
def j0j{ρ:Type}(n:Nat)(kr:Unit→Option ρ):Int→Ev.Dot→(Y4×Y16×Unit)→((Y4×Y16×Unit)→Option ρ)→Option ρ:=
 fun v4 x7 (o5,o6,_) rec=>
 (bif !(seq x7.name (⟨#[]⟩:ByteArray))then rec (((Ev.Query.mk o5.1.dots o5.1.arrows o5.1.wher o5.1.items o5.1.dist),()),a0e .str .bool o6 x7.name false,())
 else rec (((Ev.Query.mk o5.1.dots o5.1.arrows o5.1.wher o5.1.items o5.1.dist),()),o6,()))
def c1e{ρ:Type}(n:Nat)(rec:Y36×Int×Int×Y4×Y16×Unit→Option ρ)(kx:Y4×Y16×Unit→Option ρ)(kr:Unit→Option ρ):Y36×Int×Int×Y4×Y16×Unit→Option ρ:=
 fun(v2,v3,v4,o5,o6,_)=>
 (bif decide ((v4:Int)<v3)then
 (ix v2 v4).bind fun x7=>j0j n kr v4 x7 (o5,o6,()) (fun(w3,w4,_)=>rec (v2,v3,IntKind.wrap .i64 (v4+1),w3,w4,()))
 else kx (((Ev.Query.mk o5.1.dots o5.1.arrows o5.1.wher o5.1.items o5.1.dist),()),o6,()))
def j0z{ρ:Type}(n:Nat)(kr:Y16×Int×Unit→Option ρ):Int→Ev.Arrow→(Y16×Unit)→((Y16×Unit)→Option ρ)→Option ρ:=
 fun v12 x14 (o13,_) rec=>
 (bif seq x14.name (⟨#[]⟩:ByteArray)then rec (o13,())
 else
 (bif (a0s .str .bool o13 x14.name)then kr (([]:List Y6),7,())
 else rec (a0e .str .bool o13 x14.name true,())))
def c1f{ρ:Type}(n:Nat)(rec:Y26×Int×Int×Y16×Unit→Option ρ)(kx:Y16×Unit→Option ρ)(kr:Y16×Int×Unit→Option ρ):Y26×Int×Int×Y16×Unit→Option ρ:=
 fun(v10,v11,v12,o13,_)=>
 (bif decide ((v12:Int)<v11)then
 (ix v10 v12).bind fun x14=>j0z n kr v12 x14 (o13,()) (fun(w3,_)=>rec (v10,v11,IntKind.wrap .i64 (v12+1),w3,()))
 else kx (o13,()))
theorem m1z{ρ:Type}(n:Nat)(kx:Y4×Y16×Unit→Option ρ)(kr:Unit→Option ρ)(l:List Ev.Dot)(fuel:Nat)(o5:Ev.Query×Unit)(o6:List Y6)(hl:l.length≤9223372036854775807)(hf:l.length<fuel):
  a0a (fun rc=>c1e n rc kx kr) fuel (l,(l.length:Int),0,o5,o6,())=a0c (j0j n kr) (fun(o5,o6,_)=>kx (((Ev.Query.mk o5.1.dots o5.1.arrows o5.1.wher o5.1.items o5.1.dist),()),o6,())) 0 l (o5,o6,()):=
 a0d l (fun i (o5,o6,_)=>(l,(l.length:Int),i,o5,o6,())) _ _ _ (fun rec i s=>rfl) hl fuel (o5,o6,()) hf
theorem n1k{ρ:Type}(n:Nat)(kx:Y16×Unit→Option ρ)(kr:Y16×Int×Unit→Option ρ)(l:List Ev.Arrow)(fuel:Nat)(o13:List Y6)(hl:l.length≤9223372036854775807)(hf:l.length<fuel):
  a0a (fun rc=>c1f n rc kx kr) fuel (l,(l.length:Int),0,o13,())=a0c (j0z n kr) (fun(o13,_)=>kx (o13,())) 0 l (o13,()):=
 a0d l (fun i (o13,_)=>(l,(l.length:Int),i,o13,())) _ _ _ (fun rec i s=>rfl) hl fuel (o13,()) hf
def q86z(n:Nat):Ev.Query×Unit→Option (Y16×Int×Unit):=
 fun(a1,_)=>
 a0a (fun rc19=>c1e n rc19 (fun(o8,o9,_)=>
 a0a (fun rc18=>c1f n rc18 (fun(o15,_)=>some (o15,0,())) (fun(v16,v17,_)=>some (v16,v17,()))) (n) (o8.1.arrows,(o8.1.arrows.length:Int),0,o9,())) (fun(_)=>none)) (n) (a1.dots,(a1.dots.length:Int),0,((Ev.Query.mk a1.dots a1.arrows a1.wher a1.items a1.dist),()),([]:List Y6),())
def n0u{ρ:Type}(self_q91z:Ev.Val×Int×Unit→Option Y10)(n:Nat)(rec:Int×Y12×Int×Int×Y5×Unit→Option ρ)(kx:Y5×Unit→Option ρ)(kr:Int×Unit→Option ρ):Int×Y12×Int×Int×Y5×Unit→Option ρ:=
 fun(v4,v5,v6,v7,o8,_)=>
 (bif decide ((v7:Int)<v6)then
 (ix v5 v7).bind fun x9=>
 (self_q91z ((Ev.Val.mk x9.kind x9.n x9.s x9.l),IntKind.wrap .i64 (v4+1),())).bind fun(y10,_)=>
 (bif (y10:Int) !=0 then kr (y10,())
 else rec (v4,v5,v6,IntKind.wrap .i64 (v7+1),((Ev.Val.mk o8.1.kind o8.1.n o8.1.s o8.1.l),()),()))
 else kx (((Ev.Val.mk o8.1.kind o8.1.n o8.1.s o8.1.l),()),()))
def o1u(self_q91z:Ev.Val×Int×Unit→Option Y10)(n:Nat):Ev.Val×Int×Unit→Option Y10:=
 fun(a1,a2,_)=>
 (bif (a1.kind:Int)==0 then
 (bif !((((a1.n:Int)==0)&& (seq a1.s (⟨#[]⟩:ByteArray)))&& (((a1.l.length:Int):Int)==0))then some (6,())
 else some (0,()))
 else
 (bif (a1.kind:Int)==1 then
 (bif !(((((a1.n:Int)==0) || ((a1.n:Int)==1))&& (seq a1.s (⟨#[]⟩:ByteArray)))&& (((a1.l.length:Int):Int)==0))then some (6,())
 else some (0,()))
 else
 (bif (a1.kind:Int)==2 then
 (bif !((seq a1.s (⟨#[]⟩:ByteArray))&& (((a1.l.length:Int):Int)==0))then some (6,())
 else some (0,()))
 else
 (bif (a1.kind:Int)==3 then
 (bif decide (((a1.s.size:Int):Int) >4000)then some (2,())
 else
 (bif (a1.n:Int)==0 then
 (s0c (a1.s,())).bind fun(y3,_)=>
 (bif !(y3&& (((a1.l.length:Int):Int)==0))then some (6,())
 else some (0,()))
 else some (6,())))
 else
 (bif (a1.kind:Int)==4 then
 (bif (decide (((a1.l.length:Int):Int) >30)) || (decide ((a2:Int) >6))then some (2,())
 else
 a0a (fun rc13=>n0u self_q91z n rc13 (fun(o11,_)=>
 (bif !(((o11.1.n:Int)==0)&& (seq o11.1.s (⟨#[]⟩:ByteArray)))then some (6,())
 else some (0,()))) (fun(v12,_)=>some (v12,()))) (n) (a2,a1.l,(a1.l.length:Int),0,((Ev.Val.mk a1.kind a1.n a1.s a1.l),()),()))
 else some (6,()))))))
def q91z:Nat→Ev.Val×Int×Unit→Option Y10
 | 0,_=>none
 | n+1,x=>o1u (q91z n) n x
def q89z(n:Nat):Ev.Val×Unit→Option Y10:=
 fun(a1,_)=>
 (q91z n ((Ev.Val.mk a1.kind a1.n a1.s a1.l),1,())).bind fun(y2,_)=>some (y2,())
def q98z:ByteArray×Unit→Option (Int×Bool×Unit):=
 fun(a1,_)=>
 (bif seq a1 (⟨#[43]⟩:ByteArray)then
 (bif seq a1 (⟨#[43]⟩:ByteArray)then some (2,true,())
 else
 (bif seq a1 (⟨#[110,111,116]⟩:ByteArray)then
 (bif seq a1 (⟨#[110,111,116]⟩:ByteArray)then some (1,true,())
 else
 (bif seq a1 (⟨#[99,111,97,108,101,115,99,101]⟩:ByteArray)then
 (bif seq a1 (⟨#[99,111,97,108,101,115,99,101]⟩:ByteArray)then some ((-1),true,())
 else some (0,false,()))
 else
 (bif seq a1 (⟨#[108,105,115,116]⟩:ByteArray)then some ((-1),true,())
 else some (0,false,()))))
 else
 (bif seq a1 (⟨#[110,117,108,108]⟩:ByteArray)then
 (bif seq a1 (⟨#[110,117,108,108]⟩:ByteArray)then some (1,true,())
 else
 (bif seq a1 (⟨#[99,111,97,108,101,115,99,101]⟩:ByteArray)then
 (bif seq a1 (⟨#[99,111,97,108,101,115,99,101]⟩:ByteArray)then some ((-1),true,())
 else some (0,false,()))
 else
 (bif seq a1 (⟨#[108,105,115,116]⟩:ByteArray)then some ((-1),true,())
 else some (0,false,()))))
 else
 (bif seq a1 (⟨#[115,105,122,101]⟩:ByteArray)then
 (bif seq a1 (⟨#[115,105,122,101]⟩:ByteArray)then some (1,true,())
 else
 (bif seq a1 (⟨#[99,111,97,108,101,115,99,101]⟩:ByteArray)then
 (bif seq a1 (⟨#[99,111,97,108,101,115,99,101]⟩:ByteArray)then some ((-1),true,())
 else some (0,false,()))
 else
 (bif seq a1 (⟨#[108,105,115,116]⟩:ByteArray)then some ((-1),true,())
 else some (0,false,()))))
 else
 (bif seq a1 (⟨#[104,101,97,100]⟩:ByteArray)then
 (bif seq a1 (⟨#[104,101,97,100]⟩:ByteArray)then some (1,true,())
 else
 (bif seq a1 (⟨#[99,111,97,108,101,115,99,101]⟩:ByteArray)then
 (bif seq a1 (⟨#[99,111,97,108,101,115,99,101]⟩:ByteArray)then some ((-1),true,())
 else some (0,false,()))
 else
 (bif seq a1 (⟨#[108,105,115,116]⟩:ByteArray)then some ((-1),true,())
 else some (0,false,()))))
 else
 (bif seq a1 (⟨#[105,100]⟩:ByteArray)then
 (bif seq a1 (⟨#[105,100]⟩:ByteArray)then some (1,true,())
 else
 (bif seq a1 (⟨#[99,111,97,108,101,115,99,101]⟩:ByteArray)then
 (bif seq a1 (⟨#[99,111,97,108,101,115,99,101]⟩:ByteArray)then some ((-1),true,())
 else some (0,false,()))
 else
 (bif seq a1 (⟨#[108,105,115,116]⟩:ByteArray)then some ((-1),true,())
 else some (0,false,()))))
 else
 (bif seq a1 (⟨#[116,121,112,101]⟩:ByteArray)then some (1,true,())
 else
 (bif seq a1 (⟨#[99,111,97,108,101,115,99,101]⟩:ByteArray)then
 (bif seq a1 (⟨#[99,111,97,108,101,115,99,101]⟩:ByteArray)then some ((-1),true,())
 else some (0,false,()))
 else
 (bif seq a1 (⟨#[108,105,115,116]⟩:ByteArray)then some ((-1),true,())
 else some (0,false,()))))))))))
 else
 (bif seq a1 (⟨#[45]⟩:ByteArray)then
 (bif seq a1 (⟨#[45]⟩:ByteArray)then some (2,true,())
 else
 (bif seq a1 (⟨#[110,111,116]⟩:ByteArray)then
 (bif seq a1 (⟨#[110,111,116]⟩:ByteArray)then some (1,true,())
 else
 (bif seq a1 (⟨#[99,111,97,108,101,115,99,101]⟩:ByteArray)then
 (bif seq a1 (⟨#[99,111,97,108,101,115,99,101]⟩:ByteArray)then some ((-1),true,())
 else some (0,false,()))
 else
 (bif seq a1 (⟨#[108,105,115,116]⟩:ByteArray)then some ((-1),true,())
 else some (0,false,()))))
 else
 (bif seq a1 (⟨#[110,117,108,108]⟩:ByteArray)then
 (bif seq a1 (⟨#[110,117,108,108]⟩:ByteArray)then some (1,true,())
 else
 (bif seq a1 (⟨#[99,111,97,108,101,115,99,101]⟩:ByteArray)then
 (bif seq a1 (⟨#[99,111,97,108,101,115,99,101]⟩:ByteArray)then some ((-1),true,())
 else some (0,false,()))
 else
 (bif seq a1 (⟨#[108,105,115,116]⟩:ByteArray)then some ((-1),true,())
 else some (0,false,()))))
 else
 (bif seq a1 (⟨#[115,105,122,101]⟩:ByteArray)then
 (bif seq a1 (⟨#[115,105,122,101]⟩:ByteArray)then some (1,true,())
 else
 (bif seq a1 (⟨#[99,111,97,108,101,115,99,101]⟩:ByteArray)then
 (bif seq a1 (⟨#[99,111,97,108,101,115,99,101]⟩:ByteArray)then some ((-1),true,())
 else some (0,false,()))
 else
 (bif seq a1 (⟨#[108,105,115,116]⟩:ByteArray)then some ((-1),true,())
 else some (0,false,()))))
 else
 (bif seq a1 (⟨#[104,101,97,100]⟩:ByteArray)then
 (bif seq a1 (⟨#[104,101,97,100]⟩:ByteArray)then some (1,true,())
 else
 (bif seq a1 (⟨#[99,111,97,108,101,115,99,101]⟩:ByteArray)then
 (bif seq a1 (⟨#[99,111,97,108,101,115,99,101]⟩:ByteArray)then some ((-1),true,())
 else some (0,false,()))
 else
 (bif seq a1 (⟨#[108,105,115,116]⟩:ByteArray)then some ((-1),true,())
 else some (0,false,()))))
 else
 (bif seq a1 (⟨#[105,100]⟩:ByteArray)then
 (bif seq a1 (⟨#[105,100]⟩:ByteArray)then some (1,true,())
 else
 (bif seq a1 (⟨#[99,111,97,108,101,115,99,101]⟩:ByteArray)then
 (bif seq a1 (⟨#[99,111,97,108,101,115,99,101]⟩:ByteArray)then some ((-1),true,())
 else some (0,false,()))
 else
 (bif seq a1 (⟨#[108,105,115,116]⟩:ByteArray)then some ((-1),true,())
 else some (0,false,()))))
 else
 (bif seq a1 (⟨#[116,121,112,101]⟩:ByteArray)then some (1,true,())
 else
 (bif seq a1 (⟨#[99,111,97,108,101,115,99,101]⟩:ByteArray)then
 (bif seq a1 (⟨#[99,111,97,108,101,115,99,101]⟩:ByteArray)then some ((-1),true,())
 else some (0,false,()))
 else
 (bif seq a1 (⟨#[108,105,115,116]⟩:ByteArray)then some ((-1),true,())
 else some (0,false,()))))))))))
 else
 (bif seq a1 (⟨#[42]⟩:ByteArray)then
 (bif seq a1 (⟨#[42]⟩:ByteArray)then some (2,true,())
 else
 (bif seq a1 (⟨#[110,111,116]⟩:ByteArray)then
 (bif seq a1 (⟨#[110,111,116]⟩:ByteArray)then some (1,true,())
 else
 (bif seq a1 (⟨#[99,111,97,108,101,115,99,101]⟩:ByteArray)then
 (bif seq a1 (⟨#[99,111,97,108,101,115,99,101]⟩:ByteArray)then some ((-1),true,())
 else some (0,false,()))
 else
 (bif seq a1 (⟨#[108,105,115,116]⟩:ByteArray)then some ((-1),true,())
 else some (0,false,()))))
 else
 (bif seq a1 (⟨#[110,117,108,108]⟩:ByteArray)then
 (bif seq a1 (⟨#[110,117,108,108]⟩:ByteArray)then some (1,true,())
 else
 (bif seq a1 (⟨#[99,111,97,108,101,115,99,101]⟩:ByteArray)then
 (bif seq a1 (⟨#[99,111,97,108,101,115,99,101]⟩:ByteArray)then some ((-1),true,())
 else some (0,false,()))
 else
 (bif seq a1 (⟨#[108,105,115,116]⟩:ByteArray)then some ((-1),true,())
 else some (0,false,()))))
 else
 (bif seq a1 (⟨#[115,105,122,101]⟩:ByteArray)then
 (bif seq a1 (⟨#[115,105,122,101]⟩:ByteArray)then some (1,true,())
 else
 (bif seq a1 (⟨#[99,111,97,108,101,115,99,101]⟩:ByteArray)then
 (bif seq a1 (⟨#[99,111,97,108,101,115,99,101]⟩:ByteArray)then some ((-1),true,())
 else some (0,false,()))
 else
 (bif seq a1 (⟨#[108,105,115,116]⟩:ByteArray)then some ((-1),true,())
 else some (0,false,()))))
 else
 (bif seq a1 (⟨#[104,101,97,100]⟩:ByteArray)then
 (bif seq a1 (⟨#[104,101,97,100]⟩:ByteArray)then some (1,true,())
 else
 (bif seq a1 (⟨#[99,111,97,108,101,115,99,101]⟩:ByteArray)then
 (bif seq a1 (⟨#[99,111,97,108,101,115,99,101]⟩:ByteArray)then some ((-1),true,())
 else some (0,false,()))
 else
 (bif seq a1 (⟨#[108,105,115,116]⟩:ByteArray)then some ((-1),true,())
 else some (0,false,()))))
 else
 (bif seq a1 (⟨#[105,100]⟩:ByteArray)then
 (bif seq a1 (⟨#[105,100]⟩:ByteArray)then some (1,true,())
 else
 (bif seq a1 (⟨#[99,111,97,108,101,115,99,101]⟩:ByteArray)then
 (bif seq a1 (⟨#[99,111,97,108,101,115,99,101]⟩:ByteArray)then some ((-1),true,())
 else some (0,false,()))
 else
 (bif seq a1 (⟨#[108,105,115,116]⟩:ByteArray)then some ((-1),true,())
 else some (0,false,()))))
 else
 (bif seq a1 (⟨#[116,121,112,101]⟩:ByteArray)then some (1,true,())
 else
 (bif seq a1 (⟨#[99,111,97,108,101,115,99,101]⟩:ByteArray)then
 (bif seq a1 (⟨#[99,111,97,108,101,115,99,101]⟩:ByteArray)then some ((-1),true,())
 else some (0,false,()))
 else
 (bif seq a1 (⟨#[108,105,115,116]⟩:ByteArray)then some ((-1),true,())
 else some (0,false,()))))))))))
 else
 (bif seq a1 (⟨#[61]⟩:ByteArray)then
 (bif seq a1 (⟨#[61]⟩:ByteArray)then some (2,true,())
 else
 (bif seq a1 (⟨#[110,111,116]⟩:ByteArray)then
 (bif seq a1 (⟨#[110,111,116]⟩:ByteArray)then some (1,true,())
 else
 (bif seq a1 (⟨#[99,111,97,108,101,115,99,101]⟩:ByteArray)then
 (bif seq a1 (⟨#[99,111,97,108,101,115,99,101]⟩:ByteArray)then some ((-1),true,())
 else some (0,false,()))
 else
 (bif seq a1 (⟨#[108,105,115,116]⟩:ByteArray)then some ((-1),true,())
 else some (0,false,()))))
 else
 (bif seq a1 (⟨#[110,117,108,108]⟩:ByteArray)then
 (bif seq a1 (⟨#[110,117,108,108]⟩:ByteArray)then some (1,true,())
 else
 (bif seq a1 (⟨#[99,111,97,108,101,115,99,101]⟩:ByteArray)then
 (bif seq a1 (⟨#[99,111,97,108,101,115,99,101]⟩:ByteArray)then some ((-1),true,())
 else some (0,false,()))
 else
 (bif seq a1 (⟨#[108,105,115,116]⟩:ByteArray)then some ((-1),true,())
 else some (0,false,()))))
 else
 (bif seq a1 (⟨#[115,105,122,101]⟩:ByteArray)then
 (bif seq a1 (⟨#[115,105,122,101]⟩:ByteArray)then some (1,true,())
 else
 (bif seq a1 (⟨#[99,111,97,108,101,115,99,101]⟩:ByteArray)then
 (bif seq a1 (⟨#[99,111,97,108,101,115,99,101]⟩:ByteArray)then some ((-1),true,())
 else some (0,false,()))
 else
 (bif seq a1 (⟨#[108,105,115,116]⟩:ByteArray)then some ((-1),true,())
 else some (0,false,()))))
 else
 (bif seq a1 (⟨#[104,101,97,100]⟩:ByteArray)then
 (bif seq a1 (⟨#[104,101,97,100]⟩:ByteArray)then some (1,true,())
 else
 (bif seq a1 (⟨#[99,111,97,108,101,115,99,101]⟩:ByteArray)then
 (bif seq a1 (⟨#[99,111,97,108,101,115,99,101]⟩:ByteArray)then some ((-1),true,())
 else some (0,false,()))
 else
 (bif seq a1 (⟨#[108,105,115,116]⟩:ByteArray)then some ((-1),true,())
 else some (0,false,()))))
 else
 (bif seq a1 (⟨#[105,100]⟩:ByteArray)then
 (bif seq a1 (⟨#[105,100]⟩:ByteArray)then some (1,true,())
 else
 (bif seq a1 (⟨#[99,111,97,108,101,115,99,101]⟩:ByteArray)then
 (bif seq a1 (⟨#[99,111,97,108,101,115,99,101]⟩:ByteArray)then some ((-1),true,())
 else some (0,false,()))
 else
 (bif seq a1 (⟨#[108,105,115,116]⟩:ByteArray)then some ((-1),true,())
 else some (0,false,()))))
 else
 (bif seq a1 (⟨#[116,121,112,101]⟩:ByteArray)then some (1,true,())
 else
 (bif seq a1 (⟨#[99,111,97,108,101,115,99,101]⟩:ByteArray)then
 (bif seq a1 (⟨#[99,111,97,108,101,115,99,101]⟩:ByteArray)then some ((-1),true,())
 else some (0,false,()))
 else
 (bif seq a1 (⟨#[108,105,115,116]⟩:ByteArray)then some ((-1),true,())
 else some (0,false,()))))))))))
 else
 (bif seq a1 (⟨#[60]⟩:ByteArray)then
 (bif seq a1 (⟨#[60]⟩:ByteArray)then some (2,true,())
 else
 (bif seq a1 (⟨#[110,111,116]⟩:ByteArray)then
 (bif seq a1 (⟨#[110,111,116]⟩:ByteArray)then some (1,true,())
 else
 (bif seq a1 (⟨#[99,111,97,108,101,115,99,101]⟩:ByteArray)then
 (bif seq a1 (⟨#[99,111,97,108,101,115,99,101]⟩:ByteArray)then some ((-1),true,())
 else some (0,false,()))
 else
 (bif seq a1 (⟨#[108,105,115,116]⟩:ByteArray)then some ((-1),true,())
 else some (0,false,()))))
 else
 (bif seq a1 (⟨#[110,117,108,108]⟩:ByteArray)then
 (bif seq a1 (⟨#[110,117,108,108]⟩:ByteArray)then some (1,true,())
 else
 (bif seq a1 (⟨#[99,111,97,108,101,115,99,101]⟩:ByteArray)then
 (bif seq a1 (⟨#[99,111,97,108,101,115,99,101]⟩:ByteArray)then some ((-1),true,())
 else some (0,false,()))
 else
 (bif seq a1 (⟨#[108,105,115,116]⟩:ByteArray)then some ((-1),true,())
 else some (0,false,()))))
 else
 (bif seq a1 (⟨#[115,105,122,101]⟩:ByteArray)then
 (bif seq a1 (⟨#[115,105,122,101]⟩:ByteArray)then some (1,true,())
 else
 (bif seq a1 (⟨#[99,111,97,108,101,115,99,101]⟩:ByteArray)then
 (bif seq a1 (⟨#[99,111,97,108,101,115,99,101]⟩:ByteArray)then some ((-1),true,())
 else some (0,false,()))
 else
 (bif seq a1 (⟨#[108,105,115,116]⟩:ByteArray)then some ((-1),true,())
 else some (0,false,()))))
 else
 (bif seq a1 (⟨#[104,101,97,100]⟩:ByteArray)then
 (bif seq a1 (⟨#[104,101,97,100]⟩:ByteArray)then some (1,true,())
 else
 (bif seq a1 (⟨#[99,111,97,108,101,115,99,101]⟩:ByteArray)then
 (bif seq a1 (⟨#[99,111,97,108,101,115,99,101]⟩:ByteArray)then some ((-1),true,())
 else some (0,false,()))
 else
 (bif seq a1 (⟨#[108,105,115,116]⟩:ByteArray)then some ((-1),true,())
 else some (0,false,()))))
 else
 (bif seq a1 (⟨#[105,100]⟩:ByteArray)then
 (bif seq a1 (⟨#[105,100]⟩:ByteArray)then some (1,true,())
 else
 (bif seq a1 (⟨#[99,111,97,108,101,115,99,101]⟩:ByteArray)then
 (bif seq a1 (⟨#[99,111,97,108,101,115,99,101]⟩:ByteArray)then some ((-1),true,())
 else some (0,false,()))
 else
 (bif seq a1 (⟨#[108,105,115,116]⟩:ByteArray)then some ((-1),true,())
 else some (0,false,()))))
 else
 (bif seq a1 (⟨#[116,121,112,101]⟩:ByteArray)then some (1,true,())
 else
 (bif seq a1 (⟨#[99,111,97,108,101,115,99,101]⟩:ByteArray)then
 (bif seq a1 (⟨#[99,111,97,108,101,115,99,101]⟩:ByteArray)then some ((-1),true,())
 else some (0,false,()))
 else
 (bif seq a1 (⟨#[108,105,115,116]⟩:ByteArray)then some ((-1),true,())
 else some (0,false,()))))))))))
 else
 (bif seq a1 (⟨#[60,61]⟩:ByteArray)then
 (bif seq a1 (⟨#[60,61]⟩:ByteArray)then some (2,true,())
 else
 (bif seq a1 (⟨#[110,111,116]⟩:ByteArray)then
 (bif seq a1 (⟨#[110,111,116]⟩:ByteArray)then some (1,true,())
 else
 (bif seq a1 (⟨#[99,111,97,108,101,115,99,101]⟩:ByteArray)then
 (bif seq a1 (⟨#[99,111,97,108,101,115,99,101]⟩:ByteArray)then some ((-1),true,())
 else some (0,false,()))
 else
 (bif seq a1 (⟨#[108,105,115,116]⟩:ByteArray)then some ((-1),true,())
 else some (0,false,()))))
 else
 (bif seq a1 (⟨#[110,117,108,108]⟩:ByteArray)then
 (bif seq a1 (⟨#[110,117,108,108]⟩:ByteArray)then some (1,true,())
 else
 (bif seq a1 (⟨#[99,111,97,108,101,115,99,101]⟩:ByteArray)then
 (bif seq a1 (⟨#[99,111,97,108,101,115,99,101]⟩:ByteArray)then some ((-1),true,())
 else some (0,false,()))
 else
 (bif seq a1 (⟨#[108,105,115,116]⟩:ByteArray)then some ((-1),true,())
 else some (0,false,()))))
 else
 (bif seq a1 (⟨#[115,105,122,101]⟩:ByteArray)then
 (bif seq a1 (⟨#[115,105,122,101]⟩:ByteArray)then some (1,true,())
 else
 (bif seq a1 (⟨#[99,111,97,108,101,115,99,101]⟩:ByteArray)then
 (bif seq a1 (⟨#[99,111,97,108,101,115,99,101]⟩:ByteArray)then some ((-1),true,())
 else some (0,false,()))
 else
 (bif seq a1 (⟨#[108,105,115,116]⟩:ByteArray)then some ((-1),true,())
 else some (0,false,()))))
 else
 (bif seq a1 (⟨#[104,101,97,100]⟩:ByteArray)then
 (bif seq a1 (⟨#[104,101,97,100]⟩:ByteArray)then some (1,true,())
 else
 (bif seq a1 (⟨#[99,111,97,108,101,115,99,101]⟩:ByteArray)then
 (bif seq a1 (⟨#[99,111,97,108,101,115,99,101]⟩:ByteArray)then some ((-1),true,())
 else some (0,false,()))
 else
 (bif seq a1 (⟨#[108,105,115,116]⟩:ByteArray)then some ((-1),true,())
 else some (0,false,()))))
 else
 (bif seq a1 (⟨#[105,100]⟩:ByteArray)then
 (bif seq a1 (⟨#[105,100]⟩:ByteArray)then some (1,true,())
 else
 (bif seq a1 (⟨#[99,111,97,108,101,115,99,101]⟩:ByteArray)then
 (bif seq a1 (⟨#[99,111,97,108,101,115,99,101]⟩:ByteArray)then some ((-1),true,())
 else some (0,false,()))
 else
 (bif seq a1 (⟨#[108,105,115,116]⟩:ByteArray)then some ((-1),true,())
 else some (0,false,()))))
 else
 (bif seq a1 (⟨#[116,121,112,101]⟩:ByteArray)then some (1,true,())
 else
 (bif seq a1 (⟨#[99,111,97,108,101,115,99,101]⟩:ByteArray)then
 (bif seq a1 (⟨#[99,111,97,108,101,115,99,101]⟩:ByteArray)then some ((-1),true,())
 else some (0,false,()))
 else
 (bif seq a1 (⟨#[108,105,115,116]⟩:ByteArray)then some ((-1),true,())
 else some (0,false,()))))))))))
 else
 (bif seq a1 (⟨#[97,110,100]⟩:ByteArray)then
 (bif seq a1 (⟨#[97,110,100]⟩:ByteArray)then some (2,true,())
 else
 (bif seq a1 (⟨#[110,111,116]⟩:ByteArray)then
 (bif seq a1 (⟨#[110,111,116]⟩:ByteArray)then some (1,true,())
 else
 (bif seq a1 (⟨#[99,111,97,108,101,115,99,101]⟩:ByteArray)then
 (bif seq a1 (⟨#[99,111,97,108,101,115,99,101]⟩:ByteArray)then some ((-1),true,())
 else some (0,false,()))
 else
 (bif seq a1 (⟨#[108,105,115,116]⟩:ByteArray)then some ((-1),true,())
 else some (0,false,()))))
 else
 (bif seq a1 (⟨#[110,117,108,108]⟩:ByteArray)then
 (bif seq a1 (⟨#[110,117,108,108]⟩:ByteArray)then some (1,true,())
 else
 (bif seq a1 (⟨#[99,111,97,108,101,115,99,101]⟩:ByteArray)then
 (bif seq a1 (⟨#[99,111,97,108,101,115,99,101]⟩:ByteArray)then some ((-1),true,())
 else some (0,false,()))
 else
 (bif seq a1 (⟨#[108,105,115,116]⟩:ByteArray)then some ((-1),true,())
 else some (0,false,()))))
 else
 (bif seq a1 (⟨#[115,105,122,101]⟩:ByteArray)then
 (bif seq a1 (⟨#[115,105,122,101]⟩:ByteArray)then some (1,true,())
 else
 (bif seq a1 (⟨#[99,111,97,108,101,115,99,101]⟩:ByteArray)then
 (bif seq a1 (⟨#[99,111,97,108,101,115,99,101]⟩:ByteArray)then some ((-1),true,())
 else some (0,false,()))
 else
 (bif seq a1 (⟨#[108,105,115,116]⟩:ByteArray)then some ((-1),true,())
 else some (0,false,()))))
 else
 (bif seq a1 (⟨#[104,101,97,100]⟩:ByteArray)then
 (bif seq a1 (⟨#[104,101,97,100]⟩:ByteArray)then some (1,true,())
 else
 (bif seq a1 (⟨#[99,111,97,108,101,115,99,101]⟩:ByteArray)then
 (bif seq a1 (⟨#[99,111,97,108,101,115,99,101]⟩:ByteArray)then some ((-1),true,())
 else some (0,false,()))
 else
 (bif seq a1 (⟨#[108,105,115,116]⟩:ByteArray)then some ((-1),true,())
 else some (0,false,()))))
 else
 (bif seq a1 (⟨#[105,100]⟩:ByteArray)then
 (bif seq a1 (⟨#[105,100]⟩:ByteArray)then some (1,true,())
 else
 (bif seq a1 (⟨#[99,111,97,108,101,115,99,101]⟩:ByteArray)then
 (bif seq a1 (⟨#[99,111,97,108,101,115,99,101]⟩:ByteArray)then some ((-1),true,())
 else some (0,false,()))
 else
 (bif seq a1 (⟨#[108,105,115,116]⟩:ByteArray)then some ((-1),true,())
 else some (0,false,()))))
 else
 (bif seq a1 (⟨#[116,121,112,101]⟩:ByteArray)then some (1,true,())
 else
 (bif seq a1 (⟨#[99,111,97,108,101,115,99,101]⟩:ByteArray)then
 (bif seq a1 (⟨#[99,111,97,108,101,115,99,101]⟩:ByteArray)then some ((-1),true,())
 else some (0,false,()))
 else
 (bif seq a1 (⟨#[108,105,115,116]⟩:ByteArray)then some ((-1),true,())
 else some (0,false,()))))))))))
 else
 (bif seq a1 (⟨#[111,114]⟩:ByteArray)then
 (bif seq a1 (⟨#[111,114]⟩:ByteArray)then some (2,true,())
 else
 (bif seq a1 (⟨#[110,111,116]⟩:ByteArray)then
 (bif seq a1 (⟨#[110,111,116]⟩:ByteArray)then some (1,true,())
 else
 (bif seq a1 (⟨#[99,111,97,108,101,115,99,101]⟩:ByteArray)then
 (bif seq a1 (⟨#[99,111,97,108,101,115,99,101]⟩:ByteArray)then some ((-1),true,())
 else some (0,false,()))
 else
 (bif seq a1 (⟨#[108,105,115,116]⟩:ByteArray)then some ((-1),true,())
 else some (0,false,()))))
 else
 (bif seq a1 (⟨#[110,117,108,108]⟩:ByteArray)then
 (bif seq a1 (⟨#[110,117,108,108]⟩:ByteArray)then some (1,true,())
 else
 (bif seq a1 (⟨#[99,111,97,108,101,115,99,101]⟩:ByteArray)then
 (bif seq a1 (⟨#[99,111,97,108,101,115,99,101]⟩:ByteArray)then some ((-1),true,())
 else some (0,false,()))
 else
 (bif seq a1 (⟨#[108,105,115,116]⟩:ByteArray)then some ((-1),true,())
 else some (0,false,()))))
 else
 (bif seq a1 (⟨#[115,105,122,101]⟩:ByteArray)then
 (bif seq a1 (⟨#[115,105,122,101]⟩:ByteArray)then some (1,true,())
 else
 (bif seq a1 (⟨#[99,111,97,108,101,115,99,101]⟩:ByteArray)then
 (bif seq a1 (⟨#[99,111,97,108,101,115,99,101]⟩:ByteArray)then some ((-1),true,())
 else some (0,false,()))
 else
 (bif seq a1 (⟨#[108,105,115,116]⟩:ByteArray)then some ((-1),true,())
 else some (0,false,()))))
 else
 (bif seq a1 (⟨#[104,101,97,100]⟩:ByteArray)then
 (bif seq a1 (⟨#[104,101,97,100]⟩:ByteArray)then some (1,true,())
 else
 (bif seq a1 (⟨#[99,111,97,108,101,115,99,101]⟩:ByteArray)then
 (bif seq a1 (⟨#[99,111,97,108,101,115,99,101]⟩:ByteArray)then some ((-1),true,())
 else some (0,false,()))
 else
 (bif seq a1 (⟨#[108,105,115,116]⟩:ByteArray)then some ((-1),true,())
 else some (0,false,()))))
 else
 (bif seq a1 (⟨#[105,100]⟩:ByteArray)then
 (bif seq a1 (⟨#[105,100]⟩:ByteArray)then some (1,true,())
 else
 (bif seq a1 (⟨#[99,111,97,108,101,115,99,101]⟩:ByteArray)then
 (bif seq a1 (⟨#[99,111,97,108,101,115,99,101]⟩:ByteArray)then some ((-1),true,())
 else some (0,false,()))
 else
 (bif seq a1 (⟨#[108,105,115,116]⟩:ByteArray)then some ((-1),true,())
 else some (0,false,()))))
 else
 (bif seq a1 (⟨#[116,121,112,101]⟩:ByteArray)then some (1,true,())
 else
 (bif seq a1 (⟨#[99,111,97,108,101,115,99,101]⟩:ByteArray)then
 (bif seq a1 (⟨#[99,111,97,108,101,115,99,101]⟩:ByteArray)then some ((-1),true,())
 else some (0,false,()))
 else
 (bif seq a1 (⟨#[108,105,115,116]⟩:ByteArray)then some ((-1),true,())
 else some (0,false,()))))))))))
 else
 (bif seq a1 (⟨#[105,110]⟩:ByteArray)then some (2,true,())
 else
 (bif seq a1 (⟨#[110,111,116]⟩:ByteArray)then
 (bif seq a1 (⟨#[110,111,116]⟩:ByteArray)then some (1,true,())
 else
 (bif seq a1 (⟨#[99,111,97,108,101,115,99,101]⟩:ByteArray)then
 (bif seq a1 (⟨#[99,111,97,108,101,115,99,101]⟩:ByteArray)then some ((-1),true,())
 else some (0,false,()))
 else
 (bif seq a1 (⟨#[108,105,115,116]⟩:ByteArray)then some ((-1),true,())
 else some (0,false,()))))
 else
 (bif seq a1 (⟨#[110,117,108,108]⟩:ByteArray)then
 (bif seq a1 (⟨#[110,117,108,108]⟩:ByteArray)then some (1,true,())
 else
 (bif seq a1 (⟨#[99,111,97,108,101,115,99,101]⟩:ByteArray)then
 (bif seq a1 (⟨#[99,111,97,108,101,115,99,101]⟩:ByteArray)then some ((-1),true,())
 else some (0,false,()))
 else
 (bif seq a1 (⟨#[108,105,115,116]⟩:ByteArray)then some ((-1),true,())
 else some (0,false,()))))
 else
 (bif seq a1 (⟨#[115,105,122,101]⟩:ByteArray)then
 (bif seq a1 (⟨#[115,105,122,101]⟩:ByteArray)then some (1,true,())
 else
 (bif seq a1 (⟨#[99,111,97,108,101,115,99,101]⟩:ByteArray)then
 (bif seq a1 (⟨#[99,111,97,108,101,115,99,101]⟩:ByteArray)then some ((-1),true,())
 else some (0,false,()))
 else
 (bif seq a1 (⟨#[108,105,115,116]⟩:ByteArray)then some ((-1),true,())
 else some (0,false,()))))
 else
 (bif seq a1 (⟨#[104,101,97,100]⟩:ByteArray)then
 (bif seq a1 (⟨#[104,101,97,100]⟩:ByteArray)then some (1,true,())
 else
 (bif seq a1 (⟨#[99,111,97,108,101,115,99,101]⟩:ByteArray)then
 (bif seq a1 (⟨#[99,111,97,108,101,115,99,101]⟩:ByteArray)then some ((-1),true,())
 else some (0,false,()))
 else
 (bif seq a1 (⟨#[108,105,115,116]⟩:ByteArray)then some ((-1),true,())
 else some (0,false,()))))
 else
 (bif seq a1 (⟨#[105,100]⟩:ByteArray)then
 (bif seq a1 (⟨#[105,100]⟩:ByteArray)then some (1,true,())
 else
 (bif seq a1 (⟨#[99,111,97,108,101,115,99,101]⟩:ByteArray)then
 (bif seq a1 (⟨#[99,111,97,108,101,115,99,101]⟩:ByteArray)then some ((-1),true,())
 else some (0,false,()))
 else
 (bif seq a1 (⟨#[108,105,115,116]⟩:ByteArray)then some ((-1),true,())
 else some (0,false,()))))
 else
 (bif seq a1 (⟨#[116,121,112,101]⟩:ByteArray)then some (1,true,())
 else
 (bif seq a1 (⟨#[99,111,97,108,101,115,99,101]⟩:ByteArray)then
 (bif seq a1 (⟨#[99,111,97,108,101,115,99,101]⟩:ByteArray)then some ((-1),true,())
 else some (0,false,()))
 else
 (bif seq a1 (⟨#[108,105,115,116]⟩:ByteArray)then some ((-1),true,())
 else some (0,false,()))))))))))))))))))
def h0h{ρ:Type}(self_q99z:Ev.Term×Y16×Int×Unit→Option Y10)(n:Nat)(kr:Int×Unit→Option ρ):Int→Ev.Term→(Y16×Int×Y17×Unit)→((Y16×Int×Y17×Unit)→Option ρ)→Option ρ:=
 fun v16 x18 (v12,v13,o17,_) rec=>
 (self_q99z ((Ev.Term.mk x18.kind (Ev.Val.mk x18.v.kind x18.v.n x18.v.s x18.v.l) x18.name x18.a),v12,IntKind.wrap .i64 (v13+1),())).bind fun(y19,_)=>
 (bif (y19:Int) !=0 then kr (y19,())
 else rec (v12,v13,((Ev.Term.mk o17.1.kind (Ev.Val.mk o17.1.v.kind o17.1.v.n o17.1.v.s o17.1.v.l) o17.1.name o17.1.a),()),()))
def a1n{ρ:Type}(self_q99z:Ev.Term×Y16×Int×Unit→Option Y10)(n:Nat)(rec:Y16×Int×Y25×Int×Int×Y17×Unit→Option ρ)(kx:Y16×Y17×Unit→Option ρ)(kr:Int×Unit→Option ρ):Y16×Int×Y25×Int×Int×Y17×Unit→Option ρ:=
 fun(v12,v13,v14,v15,v16,o17,_)=>
 (bif decide ((v16:Int)<v15)then
 (ix v14 v16).bind fun x18=>h0h self_q99z n kr v16 x18 (v12,v13,o17,()) (fun(w0,w1,w5,_)=>rec (w0,w1,v14,v15,IntKind.wrap .i64 (v16+1),w5,()))
 else kx (v12,((Ev.Term.mk o17.1.kind (Ev.Val.mk o17.1.v.kind o17.1.v.n o17.1.v.s o17.1.v.l) o17.1.name o17.1.a),()),()))
theorem p1f{ρ:Type}(self_q99z:Ev.Term×Y16×Int×Unit→Option Y10)(n:Nat)(kx:Y16×Y17×Unit→Option ρ)(kr:Int×Unit→Option ρ)(l:List Ev.Term)(fuel:Nat)(v12:List Y6)(v13:Int)(o17:Ev.Term×Unit)(hl:l.length≤9223372036854775807)(hf:l.length<fuel):
  a0a (fun rc=>a1n self_q99z n rc kx kr) fuel (v12,v13,l,(l.length:Int),0,o17,())=a0c (h0h self_q99z n kr) (fun(v12,v13,o17,_)=>kx (v12,((Ev.Term.mk o17.1.kind (Ev.Val.mk o17.1.v.kind o17.1.v.n o17.1.v.s o17.1.v.l) o17.1.name o17.1.a),()),())) 0 l (v12,v13,o17,()):=
 a0d l (fun i (v12,v13,o17,_)=>(v12,v13,l,(l.length:Int),i,o17,())) _ _ _ (fun rec i s=>rfl) hl fuel (v12,v13,o17,()) hf
def p1g(self_q99z:Ev.Term×Y16×Int×Unit→Option Y10)(n:Nat):Ev.Term×Y16×Int×Unit→Option Y10:=
 fun(a1,a2,a3,_)=>
 (bif decide ((a3:Int) >6)then some (2,())
 else
 (bif (a1.kind:Int)==1 then
 (bif (!(seq a1.name (⟨#[]⟩:ByteArray))) || (decide (((a1.a.length:Int):Int) >0))then some (6,())
 else
 (bif (a1.v.kind:Int)==4 then some (6,())
 else
 (q89z n ((Ev.Val.mk a1.v.kind a1.v.n a1.v.s a1.v.l),())).bind fun(y4,_)=>some (y4,())))
 else
 (bif (a1.kind:Int)==2 then
 (bif (!(((((a1.v.kind:Int)==0)&& ((a1.v.n:Int)==0))&& (seq a1.v.s (⟨#[]⟩:ByteArray)))&& (((a1.v.l.length:Int):Int)==0))) || (decide (((a1.a.length:Int):Int) >0))then some (6,())
 else
 (d0u n (a1.name,())).bind fun(y5,_)=>
 (bif !y5 then some (6,())
 else
 (bif !(a0s .str .bool a2 a1.name)then some (5,())
 else some (0,()))))
 else
 (bif (a1.kind:Int)==3 then
 (bif (!(((((a1.v.kind:Int)==0)&& ((a1.v.n:Int)==0))&& (seq a1.v.s (⟨#[]⟩:ByteArray)))&& (((a1.v.l.length:Int):Int)==0))) || (((a1.a.length:Int):Int) !=1)then some (6,())
 else
 (ix a1.a 0).bind fun x6=>
 (bif (x6.kind:Int) !=2 then some (6,())
 else
 (q96z n (a1.name,())).bind fun(y7,_)=>
 (bif !y7 then some (6,())
 else
 (ix a1.a 0).bind fun x8=>
 (self_q99z ((Ev.Term.mk x8.kind (Ev.Val.mk x8.v.kind x8.v.n x8.v.s x8.v.l) x8.name x8.a),a2,IntKind.wrap .i64 (a3+1),())).bind fun(y9,_)=>some (y9,()))))
 else
 (bif (a1.kind:Int)==4 then
 (q98z (a1.name,())).bind fun(y10,y11,_)=>
 (bif ((!y11) || (!(((((a1.v.kind:Int)==0)&& ((a1.v.n:Int)==0))&& (seq a1.v.s (⟨#[]⟩:ByteArray)))&& (((a1.v.l.length:Int):Int)==0)))) || ((decide ((y10:Int) ≥0))&& (((a1.a.length:Int):Int) !=y10))then some (6,())
 else
 (bif decide (((a1.a.length:Int):Int) >30)then some (2,())
 else
 a0a (fun rc28=>a1n self_q99z n rc28 (fun(v20,o21,_)=>
 (bif seq o21.1.name (⟨#[105,100]⟩:ByteArray)then
 (ix o21.1.a 0).bind fun x23=>
 (bif (x23.kind:Int) !=2 then some (3,())
 else
 (bif seq o21.1.name (⟨#[116,121,112,101]⟩:ByteArray)then
 (ix o21.1.a 0).bind fun x24=>
 (bif (x24.kind:Int) !=2 then some (3,())
 else
 (ix o21.1.a 0).bind fun x25=>
 (bif !(a0g .str .bool false v20 x25.name)then some (3,())
 else some (0,())))
 else some (0,())))
 else
 (bif seq o21.1.name (⟨#[116,121,112,101]⟩:ByteArray)then
 (ix o21.1.a 0).bind fun x26=>
 (bif (x26.kind:Int) !=2 then some (3,())
 else
 (ix o21.1.a 0).bind fun x27=>
 (bif !(a0g .str .bool false v20 x27.name)then some (3,())
 else some (0,())))
 else some (0,())))) (fun(v22,_)=>some (v22,()))) (n) (a2,a3,a1.a,(a1.a.length:Int),0,((Ev.Term.mk a1.kind (Ev.Val.mk a1.v.kind a1.v.n a1.v.s a1.v.l) a1.name a1.a),()),())))
 else some (6,()))))))
def q99z:Nat→Ev.Term×Y16×Int×Unit→Option Y10
 | 0,_=>none
 | n+1,x=>p1g (q99z n) n x
def q97z(n:Nat):Ev.Term×Y16×Unit→Option Y10:=
 fun(a1,a2,_)=>
 (q99z n ((Ev.Term.mk a1.kind (Ev.Val.mk a1.v.kind a1.v.n a1.v.s a1.v.l) a1.name a1.a),a2,1,())).bind fun(y3,_)=>some (y3,())
def l0e{ρ:Type}(n:Nat)(kr:Int×Unit→Option ρ):Int→Ev.Dot→(Y4×Unit)→((Y4×Unit)→Option ρ)→Option ρ:=
 fun v4 x6 (o5,_) rec=>
 (bif !(seq x6.name (⟨#[]⟩:ByteArray))then
 (d0u n (x6.name,())).bind fun(y7,_)=>
 (bif !y7 then kr (6,())
 else
 (bif !(seq x6.label (⟨#[]⟩:ByteArray))then
 (q96z n (x6.label,())).bind fun(y8,_)=>
 (bif !y8 then kr (6,())
 else rec (((Ev.Query.mk o5.1.dots o5.1.arrows o5.1.wher o5.1.items o5.1.dist),()),()))
 else rec (((Ev.Query.mk o5.1.dots o5.1.arrows o5.1.wher o5.1.items o5.1.dist),()),())))
 else
 (bif !(seq x6.label (⟨#[]⟩:ByteArray))then
 (q96z n (x6.label,())).bind fun(y9,_)=>
 (bif !y9 then kr (6,())
 else rec (((Ev.Query.mk o5.1.dots o5.1.arrows o5.1.wher o5.1.items o5.1.dist),()),()))
 else rec (((Ev.Query.mk o5.1.dots o5.1.arrows o5.1.wher o5.1.items o5.1.dist),()),())))
def b1v{ρ:Type}(n:Nat)(rec:Y36×Int×Int×Y4×Unit→Option ρ)(kx:Y4×Unit→Option ρ)(kr:Int×Unit→Option ρ):Y36×Int×Int×Y4×Unit→Option ρ:=
 fun(v2,v3,v4,o5,_)=>
 (bif decide ((v4:Int)<v3)then
 (ix v2 v4).bind fun x6=>l0e n kr v4 x6 (o5,()) (fun(w3,_)=>rec (v2,v3,IntKind.wrap .i64 (v4+1),w3,()))
 else kx (((Ev.Query.mk o5.1.dots o5.1.arrows o5.1.wher o5.1.items o5.1.dist),()),()))
def k0a{ρ:Type}(n:Nat)(kr:Int×Unit→Option ρ):Int→Ev.Arrow→(Y4×Unit)→((Y4×Unit)→Option ρ)→Option ρ:=
 fun v14 x16 (o15,_) rec=>
 (bif !(seq x16.name (⟨#[]⟩:ByteArray))then
 (d0u n (x16.name,())).bind fun(y17,_)=>
 (bif (!y17) || x16.many then kr (6,())
 else
 (bif !(seq x16.type (⟨#[]⟩:ByteArray))then
 (q96z n (x16.type,())).bind fun(y18,_)=>
 (bif !y18 then kr (6,())
 else rec (((Ev.Query.mk o15.1.dots o15.1.arrows o15.1.wher o15.1.items o15.1.dist),()),()))
 else rec (((Ev.Query.mk o15.1.dots o15.1.arrows o15.1.wher o15.1.items o15.1.dist),()),())))
 else
 (bif !(seq x16.type (⟨#[]⟩:ByteArray))then
 (q96z n (x16.type,())).bind fun(y19,_)=>
 (bif !y19 then kr (6,())
 else rec (((Ev.Query.mk o15.1.dots o15.1.arrows o15.1.wher o15.1.items o15.1.dist),()),()))
 else rec (((Ev.Query.mk o15.1.dots o15.1.arrows o15.1.wher o15.1.items o15.1.dist),()),())))
def d1f{ρ:Type}(n:Nat)(rec:Y26×Int×Int×Y4×Unit→Option ρ)(kx:Y4×Unit→Option ρ)(kr:Int×Unit→Option ρ):Y26×Int×Int×Y4×Unit→Option ρ:=
 fun(v12,v13,v14,o15,_)=>
 (bif decide ((v14:Int)<v13)then
 (ix v12 v14).bind fun x16=>k0a n kr v14 x16 (o15,()) (fun(w3,_)=>rec (v12,v13,IntKind.wrap .i64 (v14+1),w3,()))
 else kx (((Ev.Query.mk o15.1.dots o15.1.arrows o15.1.wher o15.1.items o15.1.dist),()),()))
def j0x{ρ:Type}(n:Nat)(kr:Int×Unit→Option ρ):Int→Ev.Term→(Y16×Y4×Unit)→((Y16×Y4×Unit)→Option ρ)→Option ρ:=
 fun v27 x29 (v24,o28,_) rec=>
 (q97z n ((Ev.Term.mk x29.kind (Ev.Val.mk x29.v.kind x29.v.n x29.v.s x29.v.l) x29.name x29.a),v24,())).bind fun(y30,_)=>
 (bif (y30:Int) !=0 then kr (y30,())
 else rec (v24,((Ev.Query.mk o28.1.dots o28.1.arrows o28.1.wher o28.1.items o28.1.dist),()),()))
def a1i{ρ:Type}(n:Nat)(rec:Y16×Y25×Int×Int×Y4×Unit→Option ρ)(kx:Y16×Y4×Unit→Option ρ)(kr:Int×Unit→Option ρ):Y16×Y25×Int×Int×Y4×Unit→Option ρ:=
 fun(v24,v25,v26,v27,o28,_)=>
 (bif decide ((v27:Int)<v26)then
 (ix v25 v27).bind fun x29=>j0x n kr v27 x29 (v24,o28,()) (fun(w0,w4,_)=>rec (w0,v25,v26,IntKind.wrap .i64 (v27+1),w4,()))
 else kx (v24,((Ev.Query.mk o28.1.dots o28.1.arrows o28.1.wher o28.1.items o28.1.dist),()),()))
def k0v{ρ:Type}(n:Nat)(kr:Int×Unit→Option ρ):Int→Ev.Item→(Y16×Y16×Unit)→((Y16×Y16×Unit)→Option ρ)→Option ρ:=
 fun v37 x39 (v34,o38,_) rec=>
 (d0u n (x39.name,())).bind fun(y40,_)=>
 (bif !y40 then kr (6,())
 else
 (q7z n (([(⟨#[]⟩:ByteArray),(⟨#[99,111,117,110,116]⟩:ByteArray),(⟨#[115,117,109]⟩:ByteArray),(⟨#[109,105,110]⟩:ByteArray),(⟨#[109,97,120]⟩:ByteArray)]:List ByteArray),x39.agg,())).bind fun(y41,_)=>
 (bif !y41 then kr (6,())
 else
 (bif (a0g .str .bool false o38 x39.name)then kr (7,())
 else
 (q97z n ((Ev.Term.mk x39.t.kind (Ev.Val.mk x39.t.v.kind x39.t.v.n x39.t.v.s x39.t.v.l) x39.t.name x39.t.a),v34,())).bind fun(y42,_)=>
 (bif (y42:Int) !=0 then kr (y42,())
 else rec (v34,a0e .str .bool o38 x39.name true,())))))
def c1t{ρ:Type}(n:Nat)(rec:Y16×Y30×Int×Int×Y16×Unit→Option ρ)(kx:Unit→Option ρ)(kr:Int×Unit→Option ρ):Y16×Y30×Int×Int×Y16×Unit→Option ρ:=
 fun(v34,v35,v36,v37,o38,_)=>
 (bif decide ((v37:Int)<v36)then
 (ix v35 v37).bind fun x39=>k0v n kr v37 x39 (v34,o38,()) (fun(w0,w4,_)=>rec (w0,v35,v36,IntKind.wrap .i64 (v37+1),w4,()))
 else kx (()))
theorem k1e{ρ:Type}(n:Nat)(kx:Y4×Unit→Option ρ)(kr:Int×Unit→Option ρ)(l:List Ev.Dot)(fuel:Nat)(o5:Ev.Query×Unit)(hl:l.length≤9223372036854775807)(hf:l.length<fuel):
  a0a (fun rc=>b1v n rc kx kr) fuel (l,(l.length:Int),0,o5,())=a0c (l0e n kr) (fun(o5,_)=>kx (((Ev.Query.mk o5.1.dots o5.1.arrows o5.1.wher o5.1.items o5.1.dist),()),())) 0 l (o5,()):=
 a0d l (fun i (o5,_)=>(l,(l.length:Int),i,o5,())) _ _ _ (fun rec i s=>rfl) hl fuel (o5,()) hf
theorem n1j{ρ:Type}(n:Nat)(kx:Y4×Unit→Option ρ)(kr:Int×Unit→Option ρ)(l:List Ev.Arrow)(fuel:Nat)(o15:Ev.Query×Unit)(hl:l.length≤9223372036854775807)(hf:l.length<fuel):
  a0a (fun rc=>d1f n rc kx kr) fuel (l,(l.length:Int),0,o15,())=a0c (k0a n kr) (fun(o15,_)=>kx (((Ev.Query.mk o15.1.dots o15.1.arrows o15.1.wher o15.1.items o15.1.dist),()),())) 0 l (o15,()):=
 a0d l (fun i (o15,_)=>(l,(l.length:Int),i,o15,())) _ _ _ (fun rec i s=>rfl) hl fuel (o15,()) hf
theorem l1h{ρ:Type}(n:Nat)(kx:Y16×Y4×Unit→Option ρ)(kr:Int×Unit→Option ρ)(l:List Ev.Term)(fuel:Nat)(v24:List Y6)(o28:Ev.Query×Unit)(hl:l.length≤9223372036854775807)(hf:l.length<fuel):
  a0a (fun rc=>a1i n rc kx kr) fuel (v24,l,(l.length:Int),0,o28,())=a0c (j0x n kr) (fun(v24,o28,_)=>kx (v24,((Ev.Query.mk o28.1.dots o28.1.arrows o28.1.wher o28.1.items o28.1.dist),()),())) 0 l (v24,o28,()):=
 a0d l (fun i (v24,o28,_)=>(v24,l,(l.length:Int),i,o28,())) _ _ _ (fun rec i s=>rfl) hl fuel (v24,o28,()) hf
theorem r1w{ρ:Type}(n:Nat)(kx:Unit→Option ρ)(kr:Int×Unit→Option ρ)(l:List Ev.Item)(fuel:Nat)(v34:List Y6)(o38:List Y6)(hl:l.length≤9223372036854775807)(hf:l.length<fuel):
  a0a (fun rc=>c1t n rc kx kr) fuel (v34,l,(l.length:Int),0,o38,())=a0c (k0v n kr) (fun(v34,o38,_)=>kx (())) 0 l (v34,o38,()):=
 a0d l (fun i (v34,o38,_)=>(v34,l,(l.length:Int),i,o38,())) _ _ _ (fun rec i s=>rfl) hl fuel (v34,o38,()) hf
def q85z(n:Nat):Ev.Query×Unit→Option Y10:=
 fun(a1,_)=>
 (bif ((((decide (((a1.dots.length:Int):Int)<1)) || (decide (((a1.dots.length:Int):Int) >5))) || (decide (((a1.items.length:Int):Int)<1))) || (decide (((a1.items.length:Int):Int) >5))) || (decide (((a1.wher.length:Int):Int) >1))then some (2,())
 else
 (bif ((a1.arrows.length:Int):Int) !=(IntKind.wrap .i64 ((a1.dots.length:Int) - 1))then some (6,())
 else
 a0a (fun rc47=>b1v n rc47 (fun(o10,_)=>
 a0a (fun rc46=>d1f n rc46 (fun(o20,_)=>
 (q86z n ((Ev.Query.mk o20.1.dots o20.1.arrows o20.1.wher o20.1.items o20.1.dist),())).bind fun(y22,y23,_)=>
 (bif (y23:Int) !=0 then some (y23,())
 else
 a0a (fun rc45=>a1i n rc45 (fun(v31,o32,_)=>
 a0a (fun rc44=>c1t n rc44 (fun(_)=>some (0,())) (fun(v43,_)=>some (v43,()))) (n) (v31,o32.1.items,(o32.1.items.length:Int),0,([]:List Y6),())) (fun(v33,_)=>some (v33,()))) (n) (y22,o20.1.wher,(o20.1.wher.length:Int),0,((Ev.Query.mk o20.1.dots o20.1.arrows o20.1.wher o20.1.items o20.1.dist),()),()))) (fun(v21,_)=>some (v21,()))) (n) (o10.1.arrows,(o10.1.arrows.length:Int),0,((Ev.Query.mk o10.1.dots o10.1.arrows o10.1.wher o10.1.items o10.1.dist),()),())) (fun(v11,_)=>some (v11,()))) (n) (a1.dots,(a1.dots.length:Int),0,((Ev.Query.mk a1.dots a1.arrows a1.wher a1.items a1.dist),()),())))
def r1n{ρ:Type}(n:Nat)(kr:Int×Unit→Option ρ):Int→ByteArray→(Y27×Unit)→((Y27×Unit)→Option ρ)→Option ρ:=
 fun v5 x6 (v2,_) rec=>
 (q96z n (x6,())).bind fun(y7,_)=>
 (bif !y7 then kr (6,())
 else
 (bif decide ((v5:Int) >0)then
 (ix v2 (IntKind.wrap .i64 (v5 - 1))).bind fun x8=>
 (bif !(c0w x8 x6)then kr (6,())
 else rec (v2,()))
 else rec (v2,())))
def l1n{ρ:Type}(n:Nat)(rec:Y27×Y27×Int×Int×Unit→Option ρ)(kx:Unit→Option ρ)(kr:Int×Unit→Option ρ):Y27×Y27×Int×Int×Unit→Option ρ:=
 fun(v2,v3,v4,v5,_)=>
 (bif decide ((v5:Int)<v4)then
 (ix v3 v5).bind fun x6=>r1n n kr v5 x6 (v2,()) (fun(w0,_)=>rec (w0,v3,v4,IntKind.wrap .i64 (v5+1),()))
 else kx (()))
def q80z(n:Nat):Y27×Unit→Option Y10:=
 fun(a1,_)=>
 (bif decide (((a1.length:Int):Int) >4)then some (2,())
 else
 a0a (fun rc10=>l1n n rc10 (fun(_)=>some (0,())) (fun(v9,_)=>some (v9,()))) (n) (a1,a1,(a1.length:Int),0,()))
def p1t{ρ:Type}(n:Nat)(kr:Int×Unit→Option ρ):Int→Ev.Prp→(Y29×Unit)→((Y29×Unit)→Option ρ)→Option ρ:=
 fun v5 x6 (v2,_) rec=>
 (q96z n (x6.name,())).bind fun(y8,_)=>
 (bif !y8 then kr (6,())
 else
 (bif decide ((v5:Int) >0)then
 (ix v2 (IntKind.wrap .i64 (v5 - 1))).bind fun x9=>
 (bif (!(c0w x9.name x6.name)) || ((x6.val.kind:Int)==0)then kr (6,())
 else
 (q89z n ((Ev.Val.mk x6.val.kind x6.val.n x6.val.s x6.val.l),())).bind fun(y10,_)=>
 (bif (y10:Int) !=0 then kr (y10,())
 else rec (v2,())))
 else
 (bif (x6.val.kind:Int)==0 then kr (6,())
 else
 (q89z n ((Ev.Val.mk x6.val.kind x6.val.n x6.val.s x6.val.l),())).bind fun(y11,_)=>
 (bif (y11:Int) !=0 then kr (y11,())
 else rec (v2,())))))
def k1t{ρ:Type}(n:Nat)(rec:Y29×Y29×Int×Int×Unit→Option ρ)(kx:Unit→Option ρ)(kr:Int×Unit→Option ρ):Y29×Y29×Int×Int×Unit→Option ρ:=
 fun(v2,v3,v4,v5,_)=>
 (bif decide ((v5:Int)<v4)then
 (ix v3 v5).bind fun x6=>p1t n kr v5 x6 (v2,()) (fun(w0,_)=>rec (w0,v3,v4,IntKind.wrap .i64 (v5+1),()))
 else kx (()))
def q83z(n:Nat):Y29×Unit→Option Y10:=
 fun(a1,_)=>
 (bif decide (((a1.length:Int):Int) >6)then some (2,())
 else
 a0a (fun rc13=>k1t n rc13 (fun(_)=>some (0,())) (fun(v12,_)=>some (v12,()))) (n) (a1,a1,(a1.length:Int),0,()))
def i0r{ρ:Type}(n:Nat)(rec:Int×Y0×Int×Int×Unit→Option ρ)(kx:Int×Unit→Option ρ)(kr:Int×Unit→Option ρ):Int×Y0×Int×Int×Unit→Option ρ:=
 fun(v2,v3,v4,v5,_)=>
 (bif decide ((v5:Int)<v4)then
 (ix v3 v5).bind fun x6=>
 (bif (x6:Int) !=v2 then kr (x6,())
 else rec (v2,v3,v4,IntKind.wrap .i64 (v5+1),()))
 else kx (v2,()))
def q55z(n:Nat):Y0×Unit→Option Y10:=
 fun(a1,_)=>
 a0a (fun rc9=>i0r n rc9 (fun(v7,_)=>some (v7,())) (fun(v8,_)=>some (v8,()))) (n) (0,a1,(a1.length:Int),0,())
def q76z:Int×Unit→Option Y13:=
 fun(a1,_)=>some ((a1:Int) !=a1,())
def q61z:Int×Int×Unit→Option Y10:=
 fun(a1,a2,_)=>
 (q76z (a1,())).bind fun(y3,_)=>
 (q76z (a2,())).bind fun(y4,_)=>
 (bif y3 then
 (bif y4 then some (0,())
 else some ((-1),()))
 else
 (bif y4 then some (1,())
 else
 (bif decide ((a1:Int)<a2)then some ((-1),())
 else
 (bif decide ((a1:Int) >a2)then some (1,())
 else some (0,())))))
def q79z:Ev.Node×Int×Unit→Option Y10:=
 fun(a1,a2,_)=>
 (q61z (a1.id,a2,())).bind fun(y3,_)=>some (y3,())
def r1t{ρ:Type}(n:Nat)(rec:Y11×Int×Int×Int×Int×Unit→Option ρ)(kx:Y11×Int×Int×Int×Unit→Option ρ)(kr:Unit→Option ρ):Y11×Int×Int×Int×Int×Unit→Option ρ:=
 fun(v3,v4,v5,v6,v7,_)=>
 (bif decide ((v6:Int)<v7)then
 (ix v3 (IntKind.wrap .i64 (bshr .u64 (IntKind.wrap .u64 (IntKind.wrap .i64 (v6+v7))) 1))).bind fun x8=>
 (q79z ((Ev.Node.mk x8.id x8.labels x8.props),v4,())).bind fun(y9,_)=>
 (bif decide ((y9:Int)<0)then rec (v3,v4,v5,IntKind.wrap .i64 ((IntKind.wrap .i64 (bshr .u64 (IntKind.wrap .u64 (IntKind.wrap .i64 (v6+v7))) 1))+1),v7,())
 else rec (v3,v4,v5,v6,IntKind.wrap .i64 (bshr .u64 (IntKind.wrap .u64 (IntKind.wrap .i64 (v6+v7))) 1),()))
 else kx (v3,v4,v5,v6,()))
def q2z(n:Nat):Y11×Int×Unit→Option (Int×Bool×Unit):=
 fun(a1,a2,_)=>
 a0a (fun rc16=>r1t n rc16 (fun(v10,v11,v12,v13,_)=>
 (bif decide ((v13:Int)<v12)then
 (ix v10 v13).bind fun x14=>
 (q79z ((Ev.Node.mk x14.id x14.labels x14.props),v11,())).bind fun(y15,_)=>some (v13,(y15:Int)==0,())
 else some (v13,false,()))) (fun(_)=>none)) (n) (a1,a2,(a1.length:Int),0,(a1.length:Int),())
def q95z(n:Nat):Ev.Graph×Int×Unit→Option Y10:=
 fun(a1,a2,_)=>
 (q2z n (a1.nodes,a2,())).bind fun(y3,y4,_)=>
 (bif !y4 then some ((-1),())
 else some (y3,()))
def m1l{ρ:Type}(n:Nat)(kr:Int×Unit→Option ρ):Int→Ev.Node→(Int×Y7×Unit)→((Int×Y7×Unit)→Option ρ)→Option ρ:=
 fun v5 x7 (v2,o6,_) rec=>
 (bif decide ((x7.id:Int)≤v2)then kr (6,())
 else
 (q80z n (x7.labels,())).bind fun(y8,_)=>
 (q83z n (x7.props,())).bind fun(y9,_)=>
 (q55z n (([y8,y9]:List Int),())).bind fun(y10,_)=>
 (bif (y10:Int) !=0 then kr (y10,())
 else rec (x7.id,((Ev.Graph.mk o6.1.nodes o6.1.edges o6.1.next),()),())))
def r1u{ρ:Type}(n:Nat)(rec:Int×Y11×Int×Int×Y7×Unit→Option ρ)(kx:Int×Y7×Unit→Option ρ)(kr:Int×Unit→Option ρ):Int×Y11×Int×Int×Y7×Unit→Option ρ:=
 fun(v2,v3,v4,v5,o6,_)=>
 (bif decide ((v5:Int)<v4)then
 (ix v3 v5).bind fun x7=>m1l n kr v5 x7 (v2,o6,()) (fun(w0,w4,_)=>rec (w0,v3,v4,IntKind.wrap .i64 (v5+1),w4,()))
 else kx (v2,((Ev.Graph.mk o6.1.nodes o6.1.edges o6.1.next),()),()))
def q1i{ρ:Type}(n:Nat)(kr:Int×Unit→Option ρ):Int→Ev.Edg→Y34→(Y34→Option ρ)→Option ρ:=
 fun v18 x20 (v14,v15,o19,_) rec=>
 (bif decide ((x20.id:Int)≤v14)then kr (6,())
 else
 (q95z n ((Ev.Graph.mk o19.1.nodes o19.1.edges o19.1.next),x20.id,())).bind fun(y21,_)=>
 (bif decide ((y21:Int) ≥0)then kr (6,())
 else
 (q96z n (x20.type,())).bind fun(y22,_)=>
 (bif !y22 then kr (6,())
 else
 (q95z n ((Ev.Graph.mk o19.1.nodes o19.1.edges o19.1.next),x20.src,())).bind fun(y23,_)=>
 (bif decide ((y23:Int)<0)then kr (5,())
 else
 (q95z n ((Ev.Graph.mk o19.1.nodes o19.1.edges o19.1.next),x20.dst,())).bind fun(y24,_)=>
 (bif decide ((y24:Int)<0)then kr (5,())
 else
 (q83z n (x20.props,())).bind fun(y25,_)=>
 (bif (y25:Int) !=0 then kr (y25,())
 else rec (x20.id,v15,((Ev.Graph.mk o19.1.nodes o19.1.edges o19.1.next),()),())))))))
def p1r{ρ:Type}(n:Nat)(rec:Int×Int×Y31×Int×Int×Y7×Unit→Option ρ)(kx:Int×Int×Y7×Unit→Option ρ)(kr:Int×Unit→Option ρ):Int×Int×Y31×Int×Int×Y7×Unit→Option ρ:=
 fun(v14,v15,v16,v17,v18,o19,_)=>
 (bif decide ((v18:Int)<v17)then
 (ix v16 v18).bind fun x20=>q1i n kr v18 x20 (v14,v15,o19,()) (fun(w0,w1,w5,_)=>rec (w0,w1,v16,v17,IntKind.wrap .i64 (v18+1),w5,()))
 else kx (v14,v15,((Ev.Graph.mk o19.1.nodes o19.1.edges o19.1.next),()),()))
def q82z(n:Nat):Ev.Graph×Unit→Option Y10:=
 fun(a1,_)=>
 (bif (decide (((a1.nodes.length:Int):Int) >40)) || (decide (((a1.edges.length:Int):Int) >60))then some (2,())
 else
 a0a (fun rc31=>r1u n rc31 (fun(v11,o12,_)=>
 a0a (fun rc30=>p1r n rc30 (fun(v26,v27,o28,_)=>
 (bif (decide ((o28.1.next:Int)≤(if v26>v27 then v26 else v27))) || (decide ((o28.1.next:Int) >1099511627776))then some (9,())
 else some (0,()))) (fun(v29,_)=>some (v29,()))) (n) (0,v11,o12.1.edges,(o12.1.edges.length:Int),0,((Ev.Graph.mk o12.1.nodes o12.1.edges o12.1.next),()),())) (fun(v13,_)=>some (v13,()))) (n) (0,a1.nodes,(a1.nodes.length:Int),0,((Ev.Graph.mk a1.nodes a1.edges a1.next),()),()))
def q11z:Y0×Unit→Option (Y0×Unit):=
 fun(a1,_)=>
 nilq a1 (some (([]:List Int),())) (
 ck (room (([]:List Int)++a1).length 8) (some (([]:List Int)++a1,())))
def e0n{ρ:Type}(n:Nat)(rec:(List (Int×Y0))×Y11×Int×Int×Y18×Y3×Y0×Unit→Option ρ)(kx:(List (Int×Y0))×Y11×Int×Int×Y3×Unit→Option ρ)(kr:Unit→Option ρ):(List (Int×Y0))×Y11×Int×Int×Y18×Y3×Y0×Unit→Option ρ:=
 fun(v11,v12,v13,v14,o15,o16,o17,_)=>
 (bif decide (((o17.length:Int):Int) >0)then
 (ix o17 (IntKind.wrap .i64 ((o17.length:Int) - 1))).bind fun _=>
 ((o17)[(IntKind.wrap .i64 ((o17.length:Int) - 1):Int).toNat]?).bind fun e18=>
 (cut? o17 (IntKind.wrap .i64 ((o17.length:Int) - 1))).bind fun r19=>
 (bif !(a0g .pair .bool false o16 (Ev.Pair.mk o15.1.id e18))then
 ck (room (r19++(a0g .i64 (.lst .i64) ([]:List Int) v11 e18)).length 8) (rec (v11,v12,v13,v14,((Ev.Node.mk o15.1.id o15.1.labels o15.1.props),()),a0e .pair .bool o16 (Ev.Pair.mk o15.1.id e18) true,r19++(a0g .i64 (.lst .i64) ([]:List Int) v11 e18),()))
 else rec (v11,v12,v13,v14,((Ev.Node.mk o15.1.id o15.1.labels o15.1.props),()),o16,r19,()))
 else kx (v11,v12,v13,v14,o16,()))
def c0d{ρ:Type}(n:Nat)(rec:(List (Int×Y0))×Y11×Int×Int×Y3×Unit→Option ρ)(kx:Y3×Unit→Option ρ)(kr:Unit→Option ρ):(List (Int×Y0))×Y11×Int×Int×Y3×Unit→Option ρ:=
 fun(v4,v5,v6,v7,o8,_)=>
 (bif decide ((v7:Int)<v6)then
 (ix v5 v7).bind fun x9=>
 (q11z ((a0g .i64 (.lst .i64) ([]:List Int) v4 x9.id),())).bind fun(o10,_)=>
 a0a (fun rc25=>e0n n rc25 (fun(v20,v21,v22,v23,o24,_)=>rec (v20,v21,v22,IntKind.wrap .i64 (v23+1),o24,())) (fun(_)=>none)) (n) (v4,v5,v6,v7,((Ev.Node.mk x9.id x9.labels x9.props),()),o8,o10,())
 else kx (o8,()))
def f0k(n:Nat):Ev.Graph×ByteArray×Unit→Option (Y3×Unit):=
 fun(a1,a2,_)=>
 (u1d ((Ev.Graph.mk a1.nodes a1.edges a1.next),a2,())).bind fun(y3,_)=>
 a0a (fun rc27=>c0d n rc27 (fun(o26,_)=>some (o26,())) (fun(_)=>none)) (n) (y3,a1.nodes,(a1.nodes.length:Int),0,([]:List Y33),())
def d0b{ρ:Type}(n:Nat)(kr:Unit→Option ρ):Int→Ev.Arrow→(Y7×Y28×Y21×Unit)→((Y7×Y28×Y21×Unit)→Option ρ)→Option ρ:=
 fun v5 x9 (o6,o7,o8,_) rec=>
 (bif x9.many then
 (f0k n ((Ev.Graph.mk o6.1.nodes o6.1.edges o6.1.next),x9.type,())).bind fun(y10,_)=>
 ck (room (o8++([y10]:List Y3)).length 8) (rec (((Ev.Graph.mk o6.1.nodes o6.1.edges o6.1.next),()),((Ev.Query.mk o7.1.dots o7.1.arrows o7.1.wher o7.1.items o7.1.dist),(Ev.Graph.mk o7.2.1.nodes o7.2.1.edges o7.2.1.next),()),o8++([y10]:List Y3),()))
 else
 ck (room (o8++([([]:List Y33)]:List Y3)).length 8) (rec (((Ev.Graph.mk o6.1.nodes o6.1.edges o6.1.next),()),((Ev.Query.mk o7.1.dots o7.1.arrows o7.1.wher o7.1.items o7.1.dist),(Ev.Graph.mk o7.2.1.nodes o7.2.1.edges o7.2.1.next),()),o8++([([]:List Y33)]:List Y3),())))
def h0g{ρ:Type}(n:Nat)(rec:Y26×Int×Int×Y7×Y28×Y21×Unit→Option ρ)(kx:Y28×Y21×Unit→Option ρ)(kr:Unit→Option ρ):Y26×Int×Int×Y7×Y28×Y21×Unit→Option ρ:=
 fun(v3,v4,v5,o6,o7,o8,_)=>
 (bif decide ((v5:Int)<v4)then
 (ix v3 v5).bind fun x9=>d0b n kr v5 x9 (o6,o7,o8,()) (fun(w3,w4,w5,_)=>rec (v3,v4,IntKind.wrap .i64 (v5+1),w3,w4,w5,()))
 else kx (((Ev.Query.mk o7.1.dots o7.1.arrows o7.1.wher o7.1.items o7.1.dist),(Ev.Graph.mk o7.2.1.nodes o7.2.1.edges o7.2.1.next),()),o8,()))
theorem q0i{ρ:Type}(n:Nat)(kx:Y28×Y21×Unit→Option ρ)(kr:Unit→Option ρ)(l:List Ev.Arrow)(fuel:Nat)(o6:Ev.Graph×Unit)(o7:Ev.Query×Ev.Graph×Unit)(o8:List Y3)(hl:l.length≤9223372036854775807)(hf:l.length<fuel):
  a0a (fun rc=>h0g n rc kx kr) fuel (l,(l.length:Int),0,o6,o7,o8,())=a0c (d0b n kr) (fun(o6,o7,o8,_)=>kx (((Ev.Query.mk o7.1.dots o7.1.arrows o7.1.wher o7.1.items o7.1.dist),(Ev.Graph.mk o7.2.1.nodes o7.2.1.edges o7.2.1.next),()),o8,())) 0 l (o6,o7,o8,()):=
 a0d l (fun i (o6,o7,o8,_)=>(l,(l.length:Int),i,o6,o7,o8,())) _ _ _ (fun rec i s=>rfl) hl fuel (o6,o7,o8,()) hf
def j0n(n:Nat):Ev.Query×Ev.Graph×Unit→Option (Y1×Unit):=
 fun(a1,a2,_)=>
 a0a (fun rc13=>h0g n rc13 (fun(o11,o12,_)=>some (((Ev.Query.mk o11.1.dots o11.1.arrows o11.1.wher o11.1.items o11.1.dist),(Ev.Graph.mk o11.2.1.nodes o11.2.1.edges o11.2.1.next),o12,()),())) (fun(_)=>none)) (n) (a1.arrows,(a1.arrows.length:Int),0,((Ev.Graph.mk a2.nodes a2.edges a2.next),()),((Ev.Query.mk a1.dots a1.arrows a1.wher a1.items a1.dist),(Ev.Graph.mk a2.nodes a2.edges a2.next),()),([]:List Y3),())
def j0a{ρ:Type}(n:Nat)(kr:Unit→Option ρ):Int→Ev.Dot→Y32→(Y32→Option ρ)→Option ρ:=
 fun v5 x10 (o6,o7,o8,o9,_) rec=>
 (bif !(seq x10.name (⟨#[]⟩:ByteArray))then
 (ix o9 v5).bind fun _=>
 ((o9)[(v5:Int).toNat]?).bind fun e11=>
 (bif (e11:Int) !=0 then
 (ix o9 v5).bind fun _=>
 ((o9)[(v5:Int).toNat]?).bind fun e13=>rec (((Ev.Envr.mk (Ev.Graph.mk o6.1.g.nodes o6.1.g.edges o6.1.g.next) o6.1.at_),()),a0e .str .i64 o7 x10.name e13,((Ev.Query.mk o8.1.dots o8.1.arrows o8.1.wher o8.1.items o8.1.dist),(Ev.Graph.mk o8.2.1.nodes o8.2.1.edges o8.2.1.next),o8.2.2.1,()),o9,())
 else rec (((Ev.Envr.mk (Ev.Graph.mk o6.1.g.nodes o6.1.g.edges o6.1.g.next) o6.1.at_),()),o7,((Ev.Query.mk o8.1.dots o8.1.arrows o8.1.wher o8.1.items o8.1.dist),(Ev.Graph.mk o8.2.1.nodes o8.2.1.edges o8.2.1.next),o8.2.2.1,()),o9,()))
 else rec (((Ev.Envr.mk (Ev.Graph.mk o6.1.g.nodes o6.1.g.edges o6.1.g.next) o6.1.at_),()),o7,((Ev.Query.mk o8.1.dots o8.1.arrows o8.1.wher o8.1.items o8.1.dist),(Ev.Graph.mk o8.2.1.nodes o8.2.1.edges o8.2.1.next),o8.2.2.1,()),o9,()))
def d1a{ρ:Type}(n:Nat)(rec:Y36×Int×Int×Y19×Y9×Y1×Y0×Unit→Option ρ)(kx:Y19×Y9×Y1×Y0×Unit→Option ρ)(kr:Unit→Option ρ):Y36×Int×Int×Y19×Y9×Y1×Y0×Unit→Option ρ:=
 fun(v3,v4,v5,o6,o7,o8,o9,_)=>
 (bif decide ((v5:Int)<v4)then
 (ix v3 v5).bind fun x10=>j0a n kr v5 x10 (o6,o7,o8,o9,()) (fun(w3,w4,w5,w6,_)=>rec (v3,v4,IntKind.wrap .i64 (v5+1),w3,w4,w5,w6,()))
 else kx (((Ev.Envr.mk (Ev.Graph.mk o6.1.g.nodes o6.1.g.edges o6.1.g.next) o6.1.at_),()),o7,((Ev.Query.mk o8.1.dots o8.1.arrows o8.1.wher o8.1.items o8.1.dist),(Ev.Graph.mk o8.2.1.nodes o8.2.1.edges o8.2.1.next),o8.2.2.1,()),o9,()))
def h0l{ρ:Type}(n:Nat)(kr:Unit→Option ρ):Int→Ev.Arrow→Y32→(Y32→Option ρ)→Option ρ:=
 fun v20 x25 (o21,o22,o23,o24,_) rec=>
 (bif !(seq x25.name (⟨#[]⟩:ByteArray))then
 (ix o24 (IntKind.wrap .i64 ((o23.1.dots.length:Int)+v20))).bind fun _=>
 ((o24)[(IntKind.wrap .i64 ((o23.1.dots.length:Int)+v20):Int).toNat]?).bind fun e27=>rec (((Ev.Envr.mk (Ev.Graph.mk o21.1.g.nodes o21.1.g.edges o21.1.g.next) o21.1.at_),()),a0e .str .i64 o22 x25.name e27,((Ev.Query.mk o23.1.dots o23.1.arrows o23.1.wher o23.1.items o23.1.dist),(Ev.Graph.mk o23.2.1.nodes o23.2.1.edges o23.2.1.next),o23.2.2.1,()),o24,())
 else rec (((Ev.Envr.mk (Ev.Graph.mk o21.1.g.nodes o21.1.g.edges o21.1.g.next) o21.1.at_),()),o22,((Ev.Query.mk o23.1.dots o23.1.arrows o23.1.wher o23.1.items o23.1.dist),(Ev.Graph.mk o23.2.1.nodes o23.2.1.edges o23.2.1.next),o23.2.2.1,()),o24,()))
def b1n{ρ:Type}(n:Nat)(rec:Y26×Int×Int×Y19×Y9×Y1×Y0×Unit→Option ρ)(kx:Y19×Y9×Y1×Y0×Unit→Option ρ)(kr:Unit→Option ρ):Y26×Int×Int×Y19×Y9×Y1×Y0×Unit→Option ρ:=
 fun(v18,v19,v20,o21,o22,o23,o24,_)=>
 (bif decide ((v20:Int)<v19)then
 (ix v18 v20).bind fun x25=>h0l n kr v20 x25 (o21,o22,o23,o24,()) (fun(w3,w4,w5,w6,_)=>rec (v18,v19,IntKind.wrap .i64 (v20+1),w3,w4,w5,w6,()))
 else kx (((Ev.Envr.mk (Ev.Graph.mk o21.1.g.nodes o21.1.g.edges o21.1.g.next) o21.1.at_),()),o22,((Ev.Query.mk o23.1.dots o23.1.arrows o23.1.wher o23.1.items o23.1.dist),(Ev.Graph.mk o23.2.1.nodes o23.2.1.edges o23.2.1.next),o23.2.2.1,()),o24,()))
theorem m1t{ρ:Type}(n:Nat)(kx:Y19×Y9×Y1×Y0×Unit→Option ρ)(kr:Unit→Option ρ)(l:List Ev.Dot)(fuel:Nat)(o6:Ev.Envr×Unit)(o7:List Y2)(o8:Ev.Query×Ev.Graph×Y21×Unit)(o9:List Int)(hl:l.length≤9223372036854775807)(hf:l.length<fuel):
  a0a (fun rc=>d1a n rc kx kr) fuel (l,(l.length:Int),0,o6,o7,o8,o9,())=a0c (j0a n kr) (fun(o6,o7,o8,o9,_)=>kx (((Ev.Envr.mk (Ev.Graph.mk o6.1.g.nodes o6.1.g.edges o6.1.g.next) o6.1.at_),()),o7,((Ev.Query.mk o8.1.dots o8.1.arrows o8.1.wher o8.1.items o8.1.dist),(Ev.Graph.mk o8.2.1.nodes o8.2.1.edges o8.2.1.next),o8.2.2.1,()),o9,())) 0 l (o6,o7,o8,o9,()):=
 a0d l (fun i (o6,o7,o8,o9,_)=>(l,(l.length:Int),i,o6,o7,o8,o9,())) _ _ _ (fun rec i s=>rfl) hl fuel (o6,o7,o8,o9,()) hf
theorem n1c{ρ:Type}(n:Nat)(kx:Y19×Y9×Y1×Y0×Unit→Option ρ)(kr:Unit→Option ρ)(l:List Ev.Arrow)(fuel:Nat)(o21:Ev.Envr×Unit)(o22:List Y2)(o23:Ev.Query×Ev.Graph×Y21×Unit)(o24:List Int)(hl:l.length≤9223372036854775807)(hf:l.length<fuel):
  a0a (fun rc=>b1n n rc kx kr) fuel (l,(l.length:Int),0,o21,o22,o23,o24,())=a0c (h0l n kr) (fun(o21,o22,o23,o24,_)=>kx (((Ev.Envr.mk (Ev.Graph.mk o21.1.g.nodes o21.1.g.edges o21.1.g.next) o21.1.at_),()),o22,((Ev.Query.mk o23.1.dots o23.1.arrows o23.1.wher o23.1.items o23.1.dist),(Ev.Graph.mk o23.2.1.nodes o23.2.1.edges o23.2.1.next),o23.2.2.1,()),o24,())) 0 l (o21,o22,o23,o24,()):=
 a0d l (fun i (o21,o22,o23,o24,_)=>(l,(l.length:Int),i,o21,o22,o23,o24,())) _ _ _ (fun rec i s=>rfl) hl fuel (o21,o22,o23,o24,()) hf
def q54z(n:Nat):Y1×Y0×Unit→Option (Ev.Envr×Y1×Y0×Unit):=
 fun(o1,o2,_)=>
 a0a (fun rc33=>d1a n rc33 (fun(o14,o15,o16,o17,_)=>
 a0a (fun rc32=>b1n n rc32 (fun(o28,o29,o30,o31,_)=>some ((Ev.Envr.mk (Ev.Graph.mk o30.2.1.nodes o30.2.1.edges o30.2.1.next) o29),((Ev.Query.mk o30.1.dots o30.1.arrows o30.1.wher o30.1.items o30.1.dist),(Ev.Graph.mk o30.2.1.nodes o30.2.1.edges o30.2.1.next),o30.2.2.1,()),o31,())) (fun(_)=>none)) (n) (o16.1.arrows,(o16.1.arrows.length:Int),0,((Ev.Envr.mk (Ev.Graph.mk o14.1.g.nodes o14.1.g.edges o14.1.g.next) o14.1.at_),()),o15,((Ev.Query.mk o16.1.dots o16.1.arrows o16.1.wher o16.1.items o16.1.dist),(Ev.Graph.mk o16.2.1.nodes o16.2.1.edges o16.2.1.next),o16.2.2.1,()),o17,())) (fun(_)=>none)) (n) (o1.1.dots,(o1.1.dots.length:Int),0,((Ev.Envr.mk (Ev.Graph.mk ([]:List Ev.Node) ([]:List Ev.Edg) 0) ([]:List Y2)),()),([]:List Y2),((Ev.Query.mk o1.1.dots o1.1.arrows o1.1.wher o1.1.items o1.1.dist),(Ev.Graph.mk o1.2.1.nodes o1.2.1.edges o1.2.1.next),o1.2.2.1,()),o2,())
def t0p{ρ:Type}(self_q102z:Ev.Val×Unit→Option Y5)(n:Nat)(rec:Y12×Int×Int×Y20×Y5×Y12×Unit→Option ρ)(kx:Y20×Y5×Y12×Unit→Option ρ)(kr:Unit→Option ρ):Y12×Int×Int×Y20×Y5×Y12×Unit→Option ρ:=
 fun(v2,v3,v4,o5,o6,o7,_)=>
 (bif decide ((v4:Int)<v3)then
 (ix v2 v4).bind fun x8=>
 (self_q102z ((Ev.Val.mk x8.kind x8.n x8.s x8.l),())).bind fun(y10,_)=>
 ck (room (o7++([(Ev.Val.mk y10.kind y10.n y10.s y10.l)]:List Ev.Val)).length 56) (rec (v2,v3,IntKind.wrap .i64 (v4+1),(o5.1,o5.2.1,o5.2.2.1,()),((Ev.Val.mk o6.1.kind o6.1.n o6.1.s o6.1.l),()),o7++([(Ev.Val.mk y10.kind y10.n y10.s y10.l)]:List Ev.Val),()))
 else kx ((o5.1,o5.2.1,o5.2.2.1,()),((Ev.Val.mk o6.1.kind o6.1.n o6.1.s o6.1.l),()),o7,()))
def z0y(self_q102z:Ev.Val×Unit→Option Y5)(n:Nat):Ev.Val×Unit→Option Y5:=
 fun(a1,_)=>
 a0a (fun rc14=>t0p self_q102z n rc14 (fun(o11,o12,o13,_)=>some ((Ev.Val.mk o11.1 o11.2.1 o11.2.2.1 o13),())) (fun(_)=>none)) (n) (a1.l,(a1.l.length:Int),0,(a1.kind,a1.n,a1.s,()),((Ev.Val.mk 0 0 (⟨#[]⟩:ByteArray) ([]:List Ev.Val)),()),([]:List Ev.Val),())
def l0d:Nat→Ev.Val×Unit→Option Y5
 | 0,_=>none
 | n+1,x=>z0y (l0d n) n x
def g0m{ρ:Type}(n:Nat)(rec:ByteArray×Y29×Int×Int×Y5×Unit→Option ρ)(kx:Y5×Unit→Option ρ)(kr:Y5×Unit→Option ρ):ByteArray×Y29×Int×Int×Y5×Unit→Option ρ:=
 fun(v3,v4,v5,v6,o7,_)=>
 (bif decide ((v6:Int)<v5)then
 (ix v4 v6).bind fun x8=>
 (bif seq x8.name v3 then
 (l0d n ((Ev.Val.mk x8.val.kind x8.val.n x8.val.s x8.val.l),())).bind fun(y9,_)=>kr (((Ev.Val.mk y9.kind y9.n y9.s y9.l),()),())
 else rec (v3,v4,v5,IntKind.wrap .i64 (v6+1),((Ev.Val.mk o7.1.kind o7.1.n o7.1.s o7.1.l),()),()))
 else kx (((Ev.Val.mk o7.1.kind o7.1.n o7.1.s o7.1.l),()),()))
def h0r(n:Nat):Y29×ByteArray×Unit→Option Y5:=
 fun(a1,a2,_)=>
 a0a (fun rc12=>g0m n rc12 (fun(o10,_)=>some ((Ev.Val.mk 0 0 (⟨#[]⟩:ByteArray) ([]:List Ev.Val)),())) (fun(o11,_)=>some ((Ev.Val.mk o11.1.kind o11.1.n o11.1.s o11.1.l),()))) (n) (a2,a1,(a1.length:Int),0,((Ev.Val.mk 0 0 (⟨#[]⟩:ByteArray) ([]:List Ev.Val)),()),())
def q60z:Ev.Edg×Int×Unit→Option Y10:=
 fun(a1,a2,_)=>
 (q61z (a1.id,a2,())).bind fun(y3,_)=>some (y3,())
def n1f{ρ:Type}(n:Nat)(rec:Y31×Int×Int×Int×Int×Unit→Option ρ)(kx:Y31×Int×Int×Int×Unit→Option ρ)(kr:Unit→Option ρ):Y31×Int×Int×Int×Int×Unit→Option ρ:=
 fun(v3,v4,v5,v6,v7,_)=>
 (bif decide ((v6:Int)<v7)then
 (ix v3 (IntKind.wrap .i64 (bshr .u64 (IntKind.wrap .u64 (IntKind.wrap .i64 (v6+v7))) 1))).bind fun x8=>
 (q60z ((Ev.Edg.mk x8.id x8.src x8.dst x8.type x8.props),v4,())).bind fun(y9,_)=>
 (bif decide ((y9:Int)<0)then rec (v3,v4,v5,IntKind.wrap .i64 ((IntKind.wrap .i64 (bshr .u64 (IntKind.wrap .u64 (IntKind.wrap .i64 (v6+v7))) 1))+1),v7,())
 else rec (v3,v4,v5,v6,IntKind.wrap .i64 (bshr .u64 (IntKind.wrap .u64 (IntKind.wrap .i64 (v6+v7))) 1),()))
 else kx (v3,v4,v5,v6,()))
def q1z(n:Nat):Y31×Int×Unit→Option (Int×Bool×Unit):=
 fun(a1,a2,_)=>
 a0a (fun rc16=>n1f n rc16 (fun(v10,v11,v12,v13,_)=>
 (bif decide ((v13:Int)<v12)then
 (ix v10 v13).bind fun x14=>
 (q60z ((Ev.Edg.mk x14.id x14.src x14.dst x14.type x14.props),v11,())).bind fun(y15,_)=>some (v13,(y15:Int)==0,())
 else some (v13,false,()))) (fun(_)=>none)) (n) (a1,a2,(a1.length:Int),0,(a1.length:Int),())
def q71z(n:Nat):Ev.Graph×Int×Unit→Option Y10:=
 fun(a1,a2,_)=>
 (q1z n (a1.edges,a2,())).bind fun(y3,y4,_)=>
 (bif !y4 then some ((-1),())
 else some (y3,()))
def q73z(n:Nat):Ev.Envr×Int×ByteArray×Unit→Option Y5:=
 fun(a1,a2,a3,_)=>
 (q95z n ((Ev.Graph.mk a1.g.nodes a1.g.edges a1.g.next),a2,())).bind fun(y4,_)=>
 (bif decide ((y4:Int) ≥0)then
 (ix a1.g.nodes y4).bind fun x5=>
 (h0r n (x5.props,a3,())).bind fun(y6,_)=>some ((Ev.Val.mk y6.kind y6.n y6.s y6.l),())
 else
 (q71z n ((Ev.Graph.mk a1.g.nodes a1.g.edges a1.g.next),a2,())).bind fun(y7,_)=>
 (bif decide ((y7:Int) ≥0)then
 (ix a1.g.edges y7).bind fun x8=>
 (h0r n (x8.props,a3,())).bind fun(y9,_)=>some ((Ev.Val.mk y9.kind y9.n y9.s y9.l),())
 else some ((Ev.Val.mk 0 0 (⟨#[]⟩:ByteArray) ([]:List Ev.Val)),())))
def k0r:Int×Int×Unit→Option (Int×Bool×Unit):=
 fun(a1,a2,_)=>some (IntKind.wrap .i64 (a1+a2),(decide ((IntKind.wrap .i64 (a1+a2):Int) >a1))==(decide ((a2:Int) >0)),())
def j0t{ρ:Type}(n:Nat)(kr:Unit→Option ρ):Int→Ev.Val→(Y20×Y5×Y12×Unit)→((Y20×Y5×Y12×Unit)→Option ρ)→Option ρ:=
 fun v4 x8 (o5,o6,o7,_) rec=>
 (l0d n ((Ev.Val.mk x8.kind x8.n x8.s x8.l),())).bind fun(y10,_)=>
 ck (room (o7++([(Ev.Val.mk y10.kind y10.n y10.s y10.l)]:List Ev.Val)).length 56) (rec ((o5.1,o5.2.1,o5.2.2.1,()),((Ev.Val.mk o6.1.kind o6.1.n o6.1.s o6.1.l),()),o7++([(Ev.Val.mk y10.kind y10.n y10.s y10.l)]:List Ev.Val),()))
def c1o{ρ:Type}(n:Nat)(rec:Y12×Int×Int×Y20×Y5×Y12×Unit→Option ρ)(kx:Y20×Y5×Y12×Unit→Option ρ)(kr:Unit→Option ρ):Y12×Int×Int×Y20×Y5×Y12×Unit→Option ρ:=
 fun(v2,v3,v4,o5,o6,o7,_)=>
 (bif decide ((v4:Int)<v3)then
 (ix v2 v4).bind fun x8=>
 (l0d n ((Ev.Val.mk x8.kind x8.n x8.s x8.l),())).bind fun(y10,_)=>
 ck (room (o7++([(Ev.Val.mk y10.kind y10.n y10.s y10.l)]:List Ev.Val)).length 56) (rec (v2,v3,IntKind.wrap .i64 (v4+1),(o5.1,o5.2.1,o5.2.2.1,()),((Ev.Val.mk o6.1.kind o6.1.n o6.1.s o6.1.l),()),o7++([(Ev.Val.mk y10.kind y10.n y10.s y10.l)]:List Ev.Val),()))
 else kx ((o5.1,o5.2.1,o5.2.2.1,()),((Ev.Val.mk o6.1.kind o6.1.n o6.1.s o6.1.l),()),o7,()))
theorem r1p{ρ:Type}(n:Nat)(kx:Y20×Y5×Y12×Unit→Option ρ)(kr:Unit→Option ρ)(l:List Ev.Val)(fuel:Nat)(o5:Int×Int×ByteArray×Unit)(o6:Ev.Val×Unit)(o7:List Ev.Val)(hl:l.length≤9223372036854775807)(hf:l.length<fuel):
  a0a (fun rc=>c1o n rc kx kr) fuel (l,(l.length:Int),0,o5,o6,o7,())=a0c (j0t n kr) (fun(o5,o6,o7,_)=>kx ((o5.1,o5.2.1,o5.2.2.1,()),((Ev.Val.mk o6.1.kind o6.1.n o6.1.s o6.1.l),()),o7,())) 0 l (o5,o6,o7,()):=
 a0d l (fun i (o5,o6,o7,_)=>(l,(l.length:Int),i,o5,o6,o7,())) _ _ _ (fun rec i s=>rfl) hl fuel (o5,o6,o7,()) hf
def q74z(n:Nat):Ev.Val×Unit→Option (Y20×Y12×Unit):=
 fun(a1,_)=>
 a0a (fun rc14=>c1o n rc14 (fun(o11,o12,o13,_)=>some ((o11.1,o11.2.1,o11.2.2.1,()),o13,())) (fun(_)=>none)) (n) (a1.l,(a1.l.length:Int),0,(a1.kind,a1.n,a1.s,()),((Ev.Val.mk 0 0 (⟨#[]⟩:ByteArray) ([]:List Ev.Val)),()),([]:List Ev.Val),())
def k0d:Int×Int×Unit→Option (Int×Bool×Unit):=
 fun(a1,a2,_)=>some (IntKind.wrap .i64 (a1 - a2),(decide ((IntKind.wrap .i64 (a1 - a2):Int)<a1))==(decide ((a2:Int) >0)),())
def q92z:Int×Unit→Option Y10:=
 fun(a1,_)=>
 (bif decide ((a1:Int)<0)then some (IntKind.wrap .u64 (0 - (IntKind.wrap .u64 (a1))),())
 else some (IntKind.wrap .u64 (a1),()))
def q69z:Int×Int×Unit→Option (Int×Int×Unit):=
 fun(a1,a2,_)=>some (IntKind.wrap .u64 ((IntKind.wrap .u64 ((IntKind.wrap .u64 ((bshr .u64 a1 32)*(bshr .u64 a2 32)))+(bshr .u64 (IntKind.wrap .u64 ((IntKind.wrap .u64 ((bshr .u64 a1 32)*(band .u64 a2 4294967295)))+(bshr .u64 (IntKind.wrap .u64 ((band .u64 a1 4294967295)*(band .u64 a2 4294967295))) 32))) 32)))+(bshr .u64 (IntKind.wrap .u64 ((band .u64 (IntKind.wrap .u64 ((IntKind.wrap .u64 ((bshr .u64 a1 32)*(band .u64 a2 4294967295)))+(bshr .u64 (IntKind.wrap .u64 ((band .u64 a1 4294967295)*(band .u64 a2 4294967295))) 32))) 4294967295)+(IntKind.wrap .u64 ((band .u64 a1 4294967295)*(bshr .u64 a2 32))))) 32)),IntKind.wrap .u64 (a1*a2),())
def j0c:Int×Int×Unit→Option (Int×Bool×Unit):=
 fun(a1,a2,_)=>
 (q92z (a1,())).bind fun(y3,_)=>
 (q92z (a2,())).bind fun(y4,_)=>
 (q69z (y3,y4,())).bind fun(y5,y6,_)=>
 (bif (((y5:Int) !=0) || (decide ((y6:Int) >9223372036854775808))) || (((y6:Int)==9223372036854775808)&& (!(!((decide ((a1:Int)<0))==(decide ((a2:Int)<0))))))then some (0,false,())
 else
 (bif !((decide ((a1:Int)<0))==(decide ((a2:Int)<0)))then some (IntKind.wrap .i64 (IntKind.wrap .u64 (0 - y6)),true,())
 else some (IntKind.wrap .i64 (y6),true,())))
def q81z(n:Nat):ByteArray×Ev.Val×Ev.Val×Unit→Option (Ev.Val×Int×Unit):=
 fun(a1,a2,a3,_)=>
 (bif seq a1 (⟨#[43]⟩:ByteArray)then
 (bif ((a2.kind:Int)==0) || ((a3.kind:Int)==0)then some ((Ev.Val.mk 0 0 (⟨#[]⟩:ByteArray) ([]:List Ev.Val)),0,())
 else
 (bif ((a2.kind:Int)==2)&& ((a3.kind:Int)==2)then
 (k0r (a2.n,a3.n,())).bind fun(y4,y5,_)=>
 (bif !y5 then some ((Ev.Val.mk 0 0 (⟨#[]⟩:ByteArray) ([]:List Ev.Val)),4,())
 else some ((Ev.Val.mk 2 y4 (⟨#[]⟩:ByteArray) ([]:List Ev.Val)),0,()))
 else
 (bif ((seq a1 (⟨#[43]⟩:ByteArray))&& ((a2.kind:Int)==3))&& ((a3.kind:Int)==3)then
 (bif decide ((IntKind.wrap .i64 ((a2.s.size:Int)+(a3.s.size:Int)):Int) >4000)then some ((Ev.Val.mk 0 0 (⟨#[]⟩:ByteArray) ([]:List Ev.Val)),2,())
 else
 (cat? a2.s a3.s).bind fun s6=>some ((Ev.Val.mk 3 0 s6 ([]:List Ev.Val)),0,()))
 else
 (bif ((seq a1 (⟨#[43]⟩:ByteArray))&& ((a2.kind:Int)==4))&& ((a3.kind:Int)==4)then
 (bif decide ((IntKind.wrap .i64 ((a2.l.length:Int)+(a3.l.length:Int)):Int) >30)then some ((Ev.Val.mk 0 0 (⟨#[]⟩:ByteArray) ([]:List Ev.Val)),2,())
 else
 (q74z n ((Ev.Val.mk a2.kind a2.n a2.s a2.l),())).bind fun(y8,o9,_)=>
 (q74z n ((Ev.Val.mk a3.kind a3.n a3.s a3.l),())).bind fun(y10,o11,_)=>
 ck (room (o9++o11).length 56) (some ((Ev.Val.mk 4 0 (⟨#[]⟩:ByteArray) (o9++o11)),0,())))
 else some ((Ev.Val.mk 0 0 (⟨#[]⟩:ByteArray) ([]:List Ev.Val)),3,())))))
 else
 (bif seq a1 (⟨#[45]⟩:ByteArray)then
 (bif ((a2.kind:Int)==0) || ((a3.kind:Int)==0)then some ((Ev.Val.mk 0 0 (⟨#[]⟩:ByteArray) ([]:List Ev.Val)),0,())
 else
 (bif ((a2.kind:Int)==2)&& ((a3.kind:Int)==2)then
 (k0d (a2.n,a3.n,())).bind fun(y12,y13,_)=>
 (bif !y13 then some ((Ev.Val.mk 0 0 (⟨#[]⟩:ByteArray) ([]:List Ev.Val)),4,())
 else some ((Ev.Val.mk 2 y12 (⟨#[]⟩:ByteArray) ([]:List Ev.Val)),0,()))
 else
 (bif ((seq a1 (⟨#[43]⟩:ByteArray))&& ((a2.kind:Int)==3))&& ((a3.kind:Int)==3)then
 (bif decide ((IntKind.wrap .i64 ((a2.s.size:Int)+(a3.s.size:Int)):Int) >4000)then some ((Ev.Val.mk 0 0 (⟨#[]⟩:ByteArray) ([]:List Ev.Val)),2,())
 else
 (cat? a2.s a3.s).bind fun s14=>some ((Ev.Val.mk 3 0 s14 ([]:List Ev.Val)),0,()))
 else
 (bif ((seq a1 (⟨#[43]⟩:ByteArray))&& ((a2.kind:Int)==4))&& ((a3.kind:Int)==4)then
 (bif decide ((IntKind.wrap .i64 ((a2.l.length:Int)+(a3.l.length:Int)):Int) >30)then some ((Ev.Val.mk 0 0 (⟨#[]⟩:ByteArray) ([]:List Ev.Val)),2,())
 else
 (q74z n ((Ev.Val.mk a2.kind a2.n a2.s a2.l),())).bind fun(y16,o17,_)=>
 (q74z n ((Ev.Val.mk a3.kind a3.n a3.s a3.l),())).bind fun(y18,o19,_)=>
 ck (room (o17++o19).length 56) (some ((Ev.Val.mk 4 0 (⟨#[]⟩:ByteArray) (o17++o19)),0,())))
 else some ((Ev.Val.mk 0 0 (⟨#[]⟩:ByteArray) ([]:List Ev.Val)),3,())))))
 else
 (bif seq a1 (⟨#[42]⟩:ByteArray)then
 (bif ((a2.kind:Int)==0) || ((a3.kind:Int)==0)then some ((Ev.Val.mk 0 0 (⟨#[]⟩:ByteArray) ([]:List Ev.Val)),0,())
 else
 (bif ((a2.kind:Int)==2)&& ((a3.kind:Int)==2)then
 (j0c (a2.n,a3.n,())).bind fun(y20,y21,_)=>
 (bif !y21 then some ((Ev.Val.mk 0 0 (⟨#[]⟩:ByteArray) ([]:List Ev.Val)),4,())
 else some ((Ev.Val.mk 2 y20 (⟨#[]⟩:ByteArray) ([]:List Ev.Val)),0,()))
 else
 (bif ((seq a1 (⟨#[43]⟩:ByteArray))&& ((a2.kind:Int)==3))&& ((a3.kind:Int)==3)then
 (bif decide ((IntKind.wrap .i64 ((a2.s.size:Int)+(a3.s.size:Int)):Int) >4000)then some ((Ev.Val.mk 0 0 (⟨#[]⟩:ByteArray) ([]:List Ev.Val)),2,())
 else
 (cat? a2.s a3.s).bind fun s22=>some ((Ev.Val.mk 3 0 s22 ([]:List Ev.Val)),0,()))
 else
 (bif ((seq a1 (⟨#[43]⟩:ByteArray))&& ((a2.kind:Int)==4))&& ((a3.kind:Int)==4)then
 (bif decide ((IntKind.wrap .i64 ((a2.l.length:Int)+(a3.l.length:Int)):Int) >30)then some ((Ev.Val.mk 0 0 (⟨#[]⟩:ByteArray) ([]:List Ev.Val)),2,())
 else
 (q74z n ((Ev.Val.mk a2.kind a2.n a2.s a2.l),())).bind fun(y24,o25,_)=>
 (q74z n ((Ev.Val.mk a3.kind a3.n a3.s a3.l),())).bind fun(y26,o27,_)=>
 ck (room (o25++o27).length 56) (some ((Ev.Val.mk 4 0 (⟨#[]⟩:ByteArray) (o25++o27)),0,())))
 else some ((Ev.Val.mk 0 0 (⟨#[]⟩:ByteArray) ([]:List Ev.Val)),3,())))))
 else some ((Ev.Val.mk 0 0 (⟨#[]⟩:ByteArray) ([]:List Ev.Val)),5,()))))
def q56z:ByteArray×Unit→Option Y13:=
 fun(a1,_)=>some (!(seq a1 a1),())
def q36z:ByteArray×ByteArray×Unit→Option Y10:=
 fun(a1,a2,_)=>
 (q56z (a1,())).bind fun(y3,_)=>
 (q56z (a2,())).bind fun(y4,_)=>
 (bif y3 then
 (bif y4 then some (0,())
 else some ((-1),()))
 else
 (bif y4 then some (1,())
 else
 (bif c0w a1 a2 then some ((-1),())
 else
 (bif !(c0w a1 a2 || seq a1 a2)then some (1,())
 else some (0,())))))
def r1q{ρ:Type}(self_q90z:Ev.Val×Ev.Val×Unit→Option Y10)(n:Nat)(rec:Y12×Y12×Y12×Int×Int×Unit→Option ρ)(kx:Y12×Y12×Unit→Option ρ)(kr:Int×Unit→Option ρ):Y12×Y12×Y12×Int×Int×Unit→Option ρ:=
 fun(v3,v4,v5,v6,v7,_)=>
 (bif decide ((v7:Int)<v6)then
 (ix v5 v7).bind fun x8=>
 (bif decide ((v7:Int) ≥(v4.length:Int))then kr (1,())
 else
 (ix v4 v7).bind fun x9=>
 (self_q90z ((Ev.Val.mk x8.kind x8.n x8.s x8.l),(Ev.Val.mk x9.kind x9.n x9.s x9.l),())).bind fun(y10,_)=>
 (bif (y10:Int) !=0 then kr (y10,())
 else rec (v3,v4,v5,v6,IntKind.wrap .i64 (v7+1),())))
 else kx (v3,v4,()))
def q0z(self_q90z:Ev.Val×Ev.Val×Unit→Option Y10)(n:Nat):Y12×Y12×Unit→Option Y10:=
 fun(a1,a2,_)=>
 a0a (fun rc14=>r1q self_q90z n rc14 (fun(v11,v12,_)=>
 (bif decide (((v11.length:Int):Int)< (v12.length:Int))then some ((-1),())
 else some (0,()))) (fun(v13,_)=>some (v13,()))) (n) (a1,a2,a1,(a1.length:Int),0,())
def y0v{ρ:Type}(n:Nat)(kr:Int×Unit→Option ρ):Int→Int→Y10→(Y10→Option ρ)→Option ρ:=
 fun v5 x6 (v2,_) rec=>
 (bif (x6:Int) !=v2 then kr (x6,())
 else rec (v2,()))
def a1b{ρ:Type}(n:Nat)(rec:Int×Y0×Int×Int×Unit→Option ρ)(kx:Int×Unit→Option ρ)(kr:Int×Unit→Option ρ):Int×Y0×Int×Int×Unit→Option ρ:=
 fun(v2,v3,v4,v5,_)=>
 (bif decide ((v5:Int)<v4)then
 (ix v3 v5).bind fun x6=>
 (bif (x6:Int) !=v2 then kr (x6,())
 else rec (v2,v3,v4,IntKind.wrap .i64 (v5+1),()))
 else kx (v2,()))
theorem q1p{ρ:Type}(n:Nat)(kx:Int×Unit→Option ρ)(kr:Int×Unit→Option ρ)(l:List Int)(fuel:Nat)(v2:Int)(hl:l.length≤9223372036854775807)(hf:l.length<fuel):
  a0a (fun rc=>a1b n rc kx kr) fuel (v2,l,(l.length:Int),0,())=a0c (y0v n kr) (fun(v2,_)=>kx (v2,())) 0 l (v2,()):=
 a0d l (fun i (v2,_)=>(v2,l,(l.length:Int),i,())) _ _ _ (fun rec i s=>rfl) hl fuel (v2,()) hf
def q94z(n:Nat):Y0×Unit→Option Y10:=
 fun(a1,_)=>
 a0a (fun rc9=>a1b n rc9 (fun(v7,_)=>some (v7,())) (fun(v8,_)=>some (v8,()))) (n) (0,a1,(a1.length:Int),0,())
def j1n(self_q90z:Ev.Val×Ev.Val×Unit→Option Y10)(n:Nat):Ev.Val×Ev.Val×Unit→Option Y10:=
 fun(a1,a2,_)=>
 (q61z (a1.kind,a2.kind,())).bind fun(y3,_)=>
 (bif (y3:Int) !=0 then some (y3,())
 else
 (q61z (a1.n,a2.n,())).bind fun(y4,_)=>
 (q36z (a1.s,a2.s,())).bind fun(y5,_)=>
 (q0z self_q90z n (a1.l,a2.l,())).bind fun(y6,_)=>
 (q94z n (([y4,y5,y6]:List Int),())).bind fun(y7,_)=>some (y7,()))
def q90z:Nat→Ev.Val×Ev.Val×Unit→Option Y10
 | 0,_=>none
 | n+1,x=>j1n (q90z n) n x
def q93z:Bool×Unit→Option Y5:=
 fun(a1,_)=>
 (bif a1 then some ((Ev.Val.mk 1 1 (⟨#[]⟩:ByteArray) ([]:List Ev.Val)),())
 else some ((Ev.Val.mk 1 0 (⟨#[]⟩:ByteArray) ([]:List Ev.Val)),()))
def i0b{ρ:Type}(self_q104z:Ev.Val×Ev.Val×Unit→Option Y5)(n:Nat)(rec:Int×Int×Y5×Y5×Y5×Y5×Unit→Option ρ)(kx:Y5×Y5×Unit→Option ρ)(kr:Y5×Unit→Option ρ):Int×Int×Y5×Y5×Y5×Y5×Unit→Option ρ:=
 fun(v7,v8,o9,o10,o11,o12,_)=>
 (bif decide ((v8:Int)<v7)then
 (ix o9.1.l v8).bind fun x16=>
 (ix o10.1.l v8).bind fun x17=>
 (self_q104z ((Ev.Val.mk x16.kind x16.n x16.s x16.l),(Ev.Val.mk x17.kind x17.n x17.s x17.l),())).bind fun(y18,_)=>
 (bif (y18.kind:Int)==0 then rec (v7,IntKind.wrap .i64 (v8+1),((Ev.Val.mk o9.1.kind o9.1.n o9.1.s o9.1.l),()),((Ev.Val.mk o10.1.kind o10.1.n o10.1.s o10.1.l),()),((Ev.Val.mk o11.1.kind o11.1.n o11.1.s o11.1.l),()),((Ev.Val.mk y18.kind y18.n y18.s y18.l),()),())
 else
 (bif (y18.n:Int)==0 then kr (((Ev.Val.mk y18.kind y18.n y18.s y18.l),()),())
 else rec (v7,IntKind.wrap .i64 (v8+1),((Ev.Val.mk o9.1.kind o9.1.n o9.1.s o9.1.l),()),((Ev.Val.mk o10.1.kind o10.1.n o10.1.s o10.1.l),()),((Ev.Val.mk o11.1.kind o11.1.n o11.1.s o11.1.l),()),((Ev.Val.mk o12.1.kind o12.1.n o12.1.s o12.1.l),()),())))
 else kx (((Ev.Val.mk o11.1.kind o11.1.n o11.1.s o11.1.l),()),((Ev.Val.mk o12.1.kind o12.1.n o12.1.s o12.1.l),()),()))
def c1z(self_q104z:Ev.Val×Ev.Val×Unit→Option Y5)(n:Nat):Ev.Val×Ev.Val×Unit→Option Y5:=
 fun(a1,a2,_)=>
 (bif ((a1.kind:Int)==0) || ((a2.kind:Int)==0)then some ((Ev.Val.mk 0 0 (⟨#[]⟩:ByteArray) ([]:List Ev.Val)),())
 else
 (bif ((a1.kind:Int) !=4) || ((a2.kind:Int) !=4)then
 (q90z n ((Ev.Val.mk a1.kind a1.n a1.s a1.l),(Ev.Val.mk a2.kind a2.n a2.s a2.l),())).bind fun(y3,_)=>
 (q93z ((y3:Int)==0,())).bind fun(y4,_)=>some ((Ev.Val.mk y4.kind y4.n y4.s y4.l),())
 else
 (bif ((a1.l.length:Int):Int) !=(a2.l.length:Int)then
 (q93z (false,())).bind fun(y5,_)=>some ((Ev.Val.mk y5.kind y5.n y5.s y5.l),())
 else
 (q93z (true,())).bind fun(y6,_)=>
 a0a (fun rc22=>i0b self_q104z n rc22 (fun(o19,o20,_)=>some ((Ev.Val.mk o20.1.kind o20.1.n o20.1.s o20.1.l),())) (fun(o21,_)=>some ((Ev.Val.mk o21.1.kind o21.1.n o21.1.s o21.1.l),()))) (n) ((a1.l.length:Int),0,((Ev.Val.mk a1.kind a1.n a1.s a1.l),()),((Ev.Val.mk a2.kind a2.n a2.s a2.l),()),((Ev.Val.mk 0 0 (⟨#[]⟩:ByteArray) ([]:List Ev.Val)),()),((Ev.Val.mk y6.kind y6.n y6.s y6.l),()),()))))
def t0m:Nat→Ev.Val×Ev.Val×Unit→Option Y5
 | 0,_=>none
 | n+1,x=>c1z (t0m n) n x
def s0y(n:Nat):Ev.Val×Ev.Val×Unit→Option Y5:=
 fun(a1,a2,_)=>
 (bif ((a1.kind:Int) !=a2.kind) || (((a1.kind:Int) !=2)&& ((a1.kind:Int) !=3))then some ((Ev.Val.mk 0 0 (⟨#[]⟩:ByteArray) ([]:List Ev.Val)),())
 else
 (q90z n ((Ev.Val.mk a1.kind a1.n a1.s a1.l),(Ev.Val.mk a2.kind a2.n a2.s a2.l),())).bind fun(y3,_)=>
 (q93z (decide ((y3:Int)<0),())).bind fun(y4,_)=>some ((Ev.Val.mk y4.kind y4.n y4.s y4.l),()))
def v0f:Ev.Val×Unit→Option (Bool×Bool×Unit):=
 fun(a1,_)=>some ((a1.n:Int)==1,(a1.kind:Int)==1,())
def p0j:Bool×Unit→Option Y5:=
 fun(a1,_)=>
 (bif a1 then some ((Ev.Val.mk 1 1 (⟨#[]⟩:ByteArray) ([]:List Ev.Val)),())
 else some ((Ev.Val.mk 1 0 (⟨#[]⟩:ByteArray) ([]:List Ev.Val)),()))
def q88z:Ev.Val×Unit→Option Y5:=
 fun(a1,_)=>
 (v0f ((Ev.Val.mk a1.kind a1.n a1.s a1.l),())).bind fun(y2,y3,_)=>
 (bif y3 then
 (p0j (!y2,())).bind fun(y4,_)=>some ((Ev.Val.mk y4.kind y4.n y4.s y4.l),())
 else some ((Ev.Val.mk 0 0 (⟨#[]⟩:ByteArray) ([]:List Ev.Val)),()))
def q87z:Ev.Val×Ev.Val×Unit→Option Y5:=
 fun(a1,a2,_)=>
 (v0f ((Ev.Val.mk a1.kind a1.n a1.s a1.l),())).bind fun(y3,y4,_)=>
 (v0f ((Ev.Val.mk a2.kind a2.n a2.s a2.l),())).bind fun(y5,y6,_)=>
 (bif (y4&&y3) || (y6&&y5)then
 (p0j (true,())).bind fun(y7,_)=>some ((Ev.Val.mk y7.kind y7.n y7.s y7.l),())
 else
 (bif y4&&y6 then
 (p0j (false,())).bind fun(y8,_)=>some ((Ev.Val.mk y8.kind y8.n y8.s y8.l),())
 else some ((Ev.Val.mk 0 0 (⟨#[]⟩:ByteArray) ([]:List Ev.Val)),())))
def g0y{ρ:Type}(n:Nat)(kr:Unit→Option ρ):Int→Ev.Val→(Y12×Y5×Y5×Unit)→((Y12×Y5×Y5×Unit)→Option ρ)→Option ρ:=
 fun v56 x59 (v53,o57,o58,_) rec=>
 (ix v53 0).bind fun x62=>
 (t0m n ((Ev.Val.mk x62.kind x62.n x62.s x62.l),(Ev.Val.mk x59.kind x59.n x59.s x59.l),())).bind fun(y63,_)=>
 (q87z ((Ev.Val.mk o58.1.kind o58.1.n o58.1.s o58.1.l),(Ev.Val.mk y63.kind y63.n y63.s y63.l),())).bind fun(y64,_)=>rec (v53,((Ev.Val.mk o57.1.kind o57.1.n o57.1.s o57.1.l),()),((Ev.Val.mk y64.kind y64.n y64.s y64.l),()),())
def o0c{ρ:Type}(n:Nat)(rec:Y12×Y12×Int×Int×Y5×Y5×Unit→Option ρ)(kx:Y5×Y5×Unit→Option ρ)(kr:Unit→Option ρ):Y12×Y12×Int×Int×Y5×Y5×Unit→Option ρ:=
 fun(v53,v54,v55,v56,o57,o58,_)=>
 (bif decide ((v56:Int)<v55)then
 (ix v54 v56).bind fun x59=>g0y n kr v56 x59 (v53,o57,o58,()) (fun(w0,w4,w5,_)=>rec (w0,v54,v55,IntKind.wrap .i64 (v56+1),w4,w5,()))
 else kx (((Ev.Val.mk o57.1.kind o57.1.n o57.1.s o57.1.l),()),((Ev.Val.mk o58.1.kind o58.1.n o58.1.s o58.1.l),()),()))
def j0h{ρ:Type}(n:Nat)(kr:Y5×Unit→Option ρ):Int→Ev.Val→(Y5×Unit)→((Y5×Unit)→Option ρ)→Option ρ:=
 fun v77 x79 (o78,_) rec=>
 (bif (x79.kind:Int) !=0 then kr (((Ev.Val.mk x79.kind x79.n x79.s x79.l),()),())
 else rec (((Ev.Val.mk o78.1.kind o78.1.n o78.1.s o78.1.l),()),()))
def q0b{ρ:Type}(n:Nat)(rec:Y12×Int×Int×Y5×Unit→Option ρ)(kx:Y5×Unit→Option ρ)(kr:Y5×Unit→Option ρ):Y12×Int×Int×Y5×Unit→Option ρ:=
 fun(v75,v76,v77,o78,_)=>
 (bif decide ((v77:Int)<v76)then
 (ix v75 v77).bind fun x79=>
 (bif (x79.kind:Int) !=0 then kr (((Ev.Val.mk x79.kind x79.n x79.s x79.l),()),())
 else rec (v75,v76,IntKind.wrap .i64 (v77+1),((Ev.Val.mk o78.1.kind o78.1.n o78.1.s o78.1.l),()),()))
 else kx (((Ev.Val.mk o78.1.kind o78.1.n o78.1.s o78.1.l),()),()))
theorem o1h{ρ:Type}(n:Nat)(kx:Y5×Y5×Unit→Option ρ)(kr:Unit→Option ρ)(l:List Ev.Val)(fuel:Nat)(v53:List Ev.Val)(o57:Ev.Val×Unit)(o58:Ev.Val×Unit)(hl:l.length≤9223372036854775807)(hf:l.length<fuel):
  a0a (fun rc=>o0c n rc kx kr) fuel (v53,l,(l.length:Int),0,o57,o58,())=a0c (g0y n kr) (fun(v53,o57,o58,_)=>kx (((Ev.Val.mk o57.1.kind o57.1.n o57.1.s o57.1.l),()),((Ev.Val.mk o58.1.kind o58.1.n o58.1.s o58.1.l),()),())) 0 l (v53,o57,o58,()):=
 a0d l (fun i (v53,o57,o58,_)=>(v53,l,(l.length:Int),i,o57,o58,())) _ _ _ (fun rec i s=>rfl) hl fuel (v53,o57,o58,()) hf
theorem p1z{ρ:Type}(n:Nat)(kx:Y5×Unit→Option ρ)(kr:Y5×Unit→Option ρ)(l:List Ev.Val)(fuel:Nat)(o78:Ev.Val×Unit)(hl:l.length≤9223372036854775807)(hf:l.length<fuel):
  a0a (fun rc=>q0b n rc kx kr) fuel (l,(l.length:Int),0,o78,())=a0c (j0h n kr) (fun(o78,_)=>kx (((Ev.Val.mk o78.1.kind o78.1.n o78.1.s o78.1.l),()),())) 0 l (o78,()):=
 a0d l (fun i (o78,_)=>(l,(l.length:Int),i,o78,())) _ _ _ (fun rec i s=>rfl) hl fuel (o78,()) hf
def q77z(n:Nat):Ev.Envr×Ev.Term×Y12×Unit→Option Y5:=
 fun(a1,a2,a3,_)=>
 (bif seq a2.name (⟨#[43]⟩:ByteArray)then
 (bif seq a2.name (⟨#[43]⟩:ByteArray)then
 (ix a3 0).bind fun x7=>
 (ix a3 1).bind fun x8=>
 (q81z n (a2.name,(Ev.Val.mk x7.kind x7.n x7.s x7.l),(Ev.Val.mk x8.kind x8.n x8.s x8.l),())).bind fun(y9,y10,_)=>
 (q89z n ((Ev.Val.mk y9.kind y9.n y9.s y9.l),())).bind fun(y11,_)=>
 (bif (y11:Int) !=0 then some ((Ev.Val.mk 0 0 (⟨#[]⟩:ByteArray) ([]:List Ev.Val)),())
 else some ((Ev.Val.mk y9.kind y9.n y9.s y9.l),()))
 else
 (bif seq a2.name (⟨#[61]⟩:ByteArray)then
 (ix a3 0).bind fun x15=>
 (ix a3 1).bind fun x16=>
 (t0m n ((Ev.Val.mk x15.kind x15.n x15.s x15.l),(Ev.Val.mk x16.kind x16.n x16.s x16.l),())).bind fun(y17,_)=>some ((Ev.Val.mk y17.kind y17.n y17.s y17.l),())
 else
 (bif seq a2.name (⟨#[60]⟩:ByteArray)then
 (ix a3 0).bind fun x21=>
 (ix a3 1).bind fun x22=>
 (s0y n ((Ev.Val.mk x21.kind x21.n x21.s x21.l),(Ev.Val.mk x22.kind x22.n x22.s x22.l),())).bind fun(y23,_)=>some ((Ev.Val.mk y23.kind y23.n y23.s y23.l),())
 else
 (bif seq a2.name (⟨#[60,61]⟩:ByteArray)then
 (ix a3 1).bind fun x27=>
 (ix a3 0).bind fun x28=>
 (s0y n ((Ev.Val.mk x27.kind x27.n x27.s x27.l),(Ev.Val.mk x28.kind x28.n x28.s x28.l),())).bind fun(y29,_)=>
 (q88z ((Ev.Val.mk y29.kind y29.n y29.s y29.l),())).bind fun(y30,_)=>some ((Ev.Val.mk y30.kind y30.n y30.s y30.l),())
 else
 (bif seq a2.name (⟨#[97,110,100]⟩:ByteArray)then
 (ix a3 0).bind fun x34=>
 (q88z ((Ev.Val.mk x34.kind x34.n x34.s x34.l),())).bind fun(y35,_)=>
 (ix a3 1).bind fun x36=>
 (q88z ((Ev.Val.mk x36.kind x36.n x36.s x36.l),())).bind fun(y37,_)=>
 (q87z ((Ev.Val.mk y35.kind y35.n y35.s y35.l),(Ev.Val.mk y37.kind y37.n y37.s y37.l),())).bind fun(y38,_)=>
 (q88z ((Ev.Val.mk y38.kind y38.n y38.s y38.l),())).bind fun(y39,_)=>some ((Ev.Val.mk y39.kind y39.n y39.s y39.l),())
 else
 (bif seq a2.name (⟨#[111,114]⟩:ByteArray)then
 (ix a3 0).bind fun x43=>
 (ix a3 1).bind fun x44=>
 (q87z ((Ev.Val.mk x43.kind x43.n x43.s x43.l),(Ev.Val.mk x44.kind x44.n x44.s x44.l),())).bind fun(y45,_)=>some ((Ev.Val.mk y45.kind y45.n y45.s y45.l),())
 else
 (bif seq a2.name (⟨#[110,111,116]⟩:ByteArray)then
 (ix a3 0).bind fun x46=>
 (q88z ((Ev.Val.mk x46.kind x46.n x46.s x46.l),())).bind fun(y47,_)=>some ((Ev.Val.mk y47.kind y47.n y47.s y47.l),())
 else
 (bif seq a2.name (⟨#[110,117,108,108]⟩:ByteArray)then
 (ix a3 0).bind fun x48=>
 (p0j ((x48.kind:Int)==0,())).bind fun(y49,_)=>some ((Ev.Val.mk y49.kind y49.n y49.s y49.l),())
 else
 (bif seq a2.name (⟨#[105,110]⟩:ByteArray)then
 (ix a3 1).bind fun x50=>
 (bif (x50.kind:Int) !=4 then some ((Ev.Val.mk 0 0 (⟨#[]⟩:ByteArray) ([]:List Ev.Val)),())
 else
 (p0j (false,())).bind fun(y51,_)=>
 (ix a3 1).bind fun x52=>
 a0a (fun rc67=>o0c n rc67 (fun(o65,o66,_)=>some ((Ev.Val.mk o66.1.kind o66.1.n o66.1.s o66.1.l),())) (fun(_)=>none)) (n) (a3,x52.l,(x52.l.length:Int),0,((Ev.Val.mk 0 0 (⟨#[]⟩:ByteArray) ([]:List Ev.Val)),()),((Ev.Val.mk y51.kind y51.n y51.s y51.l),()),()))
 else
 (bif seq a2.name (⟨#[115,105,122,101]⟩:ByteArray)then
 (ix a3 0).bind fun x68=>
 (bif (x68.kind:Int)==3 then
 (ix a3 0).bind fun x69=>some ((Ev.Val.mk 2 ((b0b x69.s).length:Int) (⟨#[]⟩:ByteArray) ([]:List Ev.Val)),())
 else
 (bif (x68.kind:Int)==4 then
 (ix a3 0).bind fun x70=>some ((Ev.Val.mk 2 (x70.l.length:Int) (⟨#[]⟩:ByteArray) ([]:List Ev.Val)),())
 else some ((Ev.Val.mk 0 0 (⟨#[]⟩:ByteArray) ([]:List Ev.Val)),())))
 else
 (bif seq a2.name (⟨#[104,101,97,100]⟩:ByteArray)then
 (ix a3 0).bind fun x71=>
 (bif (x71.kind:Int)==4 then
 (ix a3 0).bind fun x72=>
 (bif decide (((x72.l.length:Int):Int) >0)then
 (ix a3 0).bind fun x73=>
 (ix x73.l 0).bind fun x74=>some ((Ev.Val.mk x74.kind x74.n x74.s x74.l),())
 else some ((Ev.Val.mk 0 0 (⟨#[]⟩:ByteArray) ([]:List Ev.Val)),()))
 else some ((Ev.Val.mk 0 0 (⟨#[]⟩:ByteArray) ([]:List Ev.Val)),()))
 else
 (bif seq a2.name (⟨#[99,111,97,108,101,115,99,101]⟩:ByteArray)then
 a0a (fun rc82=>q0b n rc82 (fun(o80,_)=>some ((Ev.Val.mk 0 0 (⟨#[]⟩:ByteArray) ([]:List Ev.Val)),())) (fun(o81,_)=>some ((Ev.Val.mk o81.1.kind o81.1.n o81.1.s o81.1.l),()))) (n) (a3,(a3.length:Int),0,((Ev.Val.mk 0 0 (⟨#[]⟩:ByteArray) ([]:List Ev.Val)),()),())
 else
 (bif seq a2.name (⟨#[108,105,115,116]⟩:ByteArray)then
 (q89z n ((Ev.Val.mk 4 0 (⟨#[]⟩:ByteArray) a3),())).bind fun(y83,_)=>
 (bif (y83:Int)==0 then some ((Ev.Val.mk 4 0 (⟨#[]⟩:ByteArray) a3),())
 else some ((Ev.Val.mk 0 0 (⟨#[]⟩:ByteArray) ([]:List Ev.Val)),()))
 else
 (bif seq a2.name (⟨#[105,100]⟩:ByteArray)then
 (ix a3 0).bind fun x84=>some ((Ev.Val.mk x84.kind x84.n x84.s x84.l),())
 else
 (bif seq a2.name (⟨#[116,121,112,101]⟩:ByteArray)then
 (ix a3 0).bind fun x86=>
 (q71z n ((Ev.Graph.mk a1.g.nodes a1.g.edges a1.g.next),x86.n,())).bind fun(y87,_)=>
 (bif decide ((y87:Int) ≥0)then
 (ix a1.g.edges y87).bind fun x88=>some ((Ev.Val.mk 3 0 x88.type ([]:List Ev.Val)),())
 else some ((Ev.Val.mk 0 0 (⟨#[]⟩:ByteArray) ([]:List Ev.Val)),()))
 else some ((Ev.Val.mk 0 0 (⟨#[]⟩:ByteArray) ([]:List Ev.Val)),()))))))))))))))))
 else
 (bif seq a2.name (⟨#[45]⟩:ByteArray)then
 (bif seq a2.name (⟨#[45]⟩:ByteArray)then
 (ix a3 0).bind fun x92=>
 (ix a3 1).bind fun x93=>
 (q81z n (a2.name,(Ev.Val.mk x92.kind x92.n x92.s x92.l),(Ev.Val.mk x93.kind x93.n x93.s x93.l),())).bind fun(y94,y95,_)=>
 (q89z n ((Ev.Val.mk y94.kind y94.n y94.s y94.l),())).bind fun(y96,_)=>
 (bif (y96:Int) !=0 then some ((Ev.Val.mk 0 0 (⟨#[]⟩:ByteArray) ([]:List Ev.Val)),())
 else some ((Ev.Val.mk y94.kind y94.n y94.s y94.l),()))
 else
 (bif seq a2.name (⟨#[61]⟩:ByteArray)then
 (ix a3 0).bind fun x100=>
 (ix a3 1).bind fun x101=>
 (t0m n ((Ev.Val.mk x100.kind x100.n x100.s x100.l),(Ev.Val.mk x101.kind x101.n x101.s x101.l),())).bind fun(y102,_)=>some ((Ev.Val.mk y102.kind y102.n y102.s y102.l),())
 else
 (bif seq a2.name (⟨#[60]⟩:ByteArray)then
 (ix a3 0).bind fun x106=>
 (ix a3 1).bind fun x107=>
 (s0y n ((Ev.Val.mk x106.kind x106.n x106.s x106.l),(Ev.Val.mk x107.kind x107.n x107.s x107.l),())).bind fun(y108,_)=>some ((Ev.Val.mk y108.kind y108.n y108.s y108.l),())
 else
 (bif seq a2.name (⟨#[60,61]⟩:ByteArray)then
 (ix a3 1).bind fun x112=>
 (ix a3 0).bind fun x113=>
 (s0y n ((Ev.Val.mk x112.kind x112.n x112.s x112.l),(Ev.Val.mk x113.kind x113.n x113.s x113.l),())).bind fun(y114,_)=>
 (q88z ((Ev.Val.mk y114.kind y114.n y114.s y114.l),())).bind fun(y115,_)=>some ((Ev.Val.mk y115.kind y115.n y115.s y115.l),())
 else
 (bif seq a2.name (⟨#[97,110,100]⟩:ByteArray)then
 (ix a3 0).bind fun x119=>
 (q88z ((Ev.Val.mk x119.kind x119.n x119.s x119.l),())).bind fun(y120,_)=>
 (ix a3 1).bind fun x121=>
 (q88z ((Ev.Val.mk x121.kind x121.n x121.s x121.l),())).bind fun(y122,_)=>
 (q87z ((Ev.Val.mk y120.kind y120.n y120.s y120.l),(Ev.Val.mk y122.kind y122.n y122.s y122.l),())).bind fun(y123,_)=>
 (q88z ((Ev.Val.mk y123.kind y123.n y123.s y123.l),())).bind fun(y124,_)=>some ((Ev.Val.mk y124.kind y124.n y124.s y124.l),())
 else
 (bif seq a2.name (⟨#[111,114]⟩:ByteArray)then
 (ix a3 0).bind fun x128=>
 (ix a3 1).bind fun x129=>
 (q87z ((Ev.Val.mk x128.kind x128.n x128.s x128.l),(Ev.Val.mk x129.kind x129.n x129.s x129.l),())).bind fun(y130,_)=>some ((Ev.Val.mk y130.kind y130.n y130.s y130.l),())
 else
 (bif seq a2.name (⟨#[110,111,116]⟩:ByteArray)then
 (ix a3 0).bind fun x131=>
 (q88z ((Ev.Val.mk x131.kind x131.n x131.s x131.l),())).bind fun(y132,_)=>some ((Ev.Val.mk y132.kind y132.n y132.s y132.l),())
 else
 (bif seq a2.name (⟨#[110,117,108,108]⟩:ByteArray)then
 (ix a3 0).bind fun x133=>
 (p0j ((x133.kind:Int)==0,())).bind fun(y134,_)=>some ((Ev.Val.mk y134.kind y134.n y134.s y134.l),())
 else
 (bif seq a2.name (⟨#[105,110]⟩:ByteArray)then
 (ix a3 1).bind fun x135=>
 (bif (x135.kind:Int) !=4 then some ((Ev.Val.mk 0 0 (⟨#[]⟩:ByteArray) ([]:List Ev.Val)),())
 else
 (p0j (false,())).bind fun(y136,_)=>
 (ix a3 1).bind fun x137=>
 a0a (fun rc140=>o0c n rc140 (fun(o138,o139,_)=>some ((Ev.Val.mk o139.1.kind o139.1.n o139.1.s o139.1.l),())) (fun(_)=>none)) (n) (a3,x137.l,(x137.l.length:Int),0,((Ev.Val.mk 0 0 (⟨#[]⟩:ByteArray) ([]:List Ev.Val)),()),((Ev.Val.mk y136.kind y136.n y136.s y136.l),()),()))
 else
 (bif seq a2.name (⟨#[115,105,122,101]⟩:ByteArray)then
 (ix a3 0).bind fun x141=>
 (bif (x141.kind:Int)==3 then
 (ix a3 0).bind fun x142=>some ((Ev.Val.mk 2 ((b0b x142.s).length:Int) (⟨#[]⟩:ByteArray) ([]:List Ev.Val)),())
 else
 (bif (x141.kind:Int)==4 then
 (ix a3 0).bind fun x143=>some ((Ev.Val.mk 2 (x143.l.length:Int) (⟨#[]⟩:ByteArray) ([]:List Ev.Val)),())
 else some ((Ev.Val.mk 0 0 (⟨#[]⟩:ByteArray) ([]:List Ev.Val)),())))
 else
 (bif seq a2.name (⟨#[104,101,97,100]⟩:ByteArray)then
 (ix a3 0).bind fun x144=>
 (bif (x144.kind:Int)==4 then
 (ix a3 0).bind fun x145=>
 (bif decide (((x145.l.length:Int):Int) >0)then
 (ix a3 0).bind fun x146=>
 (ix x146.l 0).bind fun x147=>some ((Ev.Val.mk x147.kind x147.n x147.s x147.l),())
 else some ((Ev.Val.mk 0 0 (⟨#[]⟩:ByteArray) ([]:List Ev.Val)),()))
 else some ((Ev.Val.mk 0 0 (⟨#[]⟩:ByteArray) ([]:List Ev.Val)),()))
 else
 (bif seq a2.name (⟨#[99,111,97,108,101,115,99,101]⟩:ByteArray)then
 a0a (fun rc150=>q0b n rc150 (fun(o148,_)=>some ((Ev.Val.mk 0 0 (⟨#[]⟩:ByteArray) ([]:List Ev.Val)),())) (fun(o149,_)=>some ((Ev.Val.mk o149.1.kind o149.1.n o149.1.s o149.1.l),()))) (n) (a3,(a3.length:Int),0,((Ev.Val.mk 0 0 (⟨#[]⟩:ByteArray) ([]:List Ev.Val)),()),())
 else
 (bif seq a2.name (⟨#[108,105,115,116]⟩:ByteArray)then
 (q89z n ((Ev.Val.mk 4 0 (⟨#[]⟩:ByteArray) a3),())).bind fun(y151,_)=>
 (bif (y151:Int)==0 then some ((Ev.Val.mk 4 0 (⟨#[]⟩:ByteArray) a3),())
 else some ((Ev.Val.mk 0 0 (⟨#[]⟩:ByteArray) ([]:List Ev.Val)),()))
 else
 (bif seq a2.name (⟨#[105,100]⟩:ByteArray)then
 (ix a3 0).bind fun x152=>some ((Ev.Val.mk x152.kind x152.n x152.s x152.l),())
 else
 (bif seq a2.name (⟨#[116,121,112,101]⟩:ByteArray)then
 (ix a3 0).bind fun x154=>
 (q71z n ((Ev.Graph.mk a1.g.nodes a1.g.edges a1.g.next),x154.n,())).bind fun(y155,_)=>
 (bif decide ((y155:Int) ≥0)then
 (ix a1.g.edges y155).bind fun x156=>some ((Ev.Val.mk 3 0 x156.type ([]:List Ev.Val)),())
 else some ((Ev.Val.mk 0 0 (⟨#[]⟩:ByteArray) ([]:List Ev.Val)),()))
 else some ((Ev.Val.mk 0 0 (⟨#[]⟩:ByteArray) ([]:List Ev.Val)),()))))))))))))))))
 else
 (bif seq a2.name (⟨#[42]⟩:ByteArray)then
 (ix a3 0).bind fun x160=>
 (ix a3 1).bind fun x161=>
 (q81z n (a2.name,(Ev.Val.mk x160.kind x160.n x160.s x160.l),(Ev.Val.mk x161.kind x161.n x161.s x161.l),())).bind fun(y162,y163,_)=>
 (q89z n ((Ev.Val.mk y162.kind y162.n y162.s y162.l),())).bind fun(y164,_)=>
 (bif (y164:Int) !=0 then some ((Ev.Val.mk 0 0 (⟨#[]⟩:ByteArray) ([]:List Ev.Val)),())
 else some ((Ev.Val.mk y162.kind y162.n y162.s y162.l),()))
 else
 (bif seq a2.name (⟨#[61]⟩:ByteArray)then
 (ix a3 0).bind fun x168=>
 (ix a3 1).bind fun x169=>
 (t0m n ((Ev.Val.mk x168.kind x168.n x168.s x168.l),(Ev.Val.mk x169.kind x169.n x169.s x169.l),())).bind fun(y170,_)=>some ((Ev.Val.mk y170.kind y170.n y170.s y170.l),())
 else
 (bif seq a2.name (⟨#[60]⟩:ByteArray)then
 (ix a3 0).bind fun x174=>
 (ix a3 1).bind fun x175=>
 (s0y n ((Ev.Val.mk x174.kind x174.n x174.s x174.l),(Ev.Val.mk x175.kind x175.n x175.s x175.l),())).bind fun(y176,_)=>some ((Ev.Val.mk y176.kind y176.n y176.s y176.l),())
 else
 (bif seq a2.name (⟨#[60,61]⟩:ByteArray)then
 (ix a3 1).bind fun x180=>
 (ix a3 0).bind fun x181=>
 (s0y n ((Ev.Val.mk x180.kind x180.n x180.s x180.l),(Ev.Val.mk x181.kind x181.n x181.s x181.l),())).bind fun(y182,_)=>
 (q88z ((Ev.Val.mk y182.kind y182.n y182.s y182.l),())).bind fun(y183,_)=>some ((Ev.Val.mk y183.kind y183.n y183.s y183.l),())
 else
 (bif seq a2.name (⟨#[97,110,100]⟩:ByteArray)then
 (ix a3 0).bind fun x187=>
 (q88z ((Ev.Val.mk x187.kind x187.n x187.s x187.l),())).bind fun(y188,_)=>
 (ix a3 1).bind fun x189=>
 (q88z ((Ev.Val.mk x189.kind x189.n x189.s x189.l),())).bind fun(y190,_)=>
 (q87z ((Ev.Val.mk y188.kind y188.n y188.s y188.l),(Ev.Val.mk y190.kind y190.n y190.s y190.l),())).bind fun(y191,_)=>
 (q88z ((Ev.Val.mk y191.kind y191.n y191.s y191.l),())).bind fun(y192,_)=>some ((Ev.Val.mk y192.kind y192.n y192.s y192.l),())
 else
 (bif seq a2.name (⟨#[111,114]⟩:ByteArray)then
 (ix a3 0).bind fun x196=>
 (ix a3 1).bind fun x197=>
 (q87z ((Ev.Val.mk x196.kind x196.n x196.s x196.l),(Ev.Val.mk x197.kind x197.n x197.s x197.l),())).bind fun(y198,_)=>some ((Ev.Val.mk y198.kind y198.n y198.s y198.l),())
 else
 (bif seq a2.name (⟨#[110,111,116]⟩:ByteArray)then
 (ix a3 0).bind fun x199=>
 (q88z ((Ev.Val.mk x199.kind x199.n x199.s x199.l),())).bind fun(y200,_)=>some ((Ev.Val.mk y200.kind y200.n y200.s y200.l),())
 else
 (bif seq a2.name (⟨#[110,117,108,108]⟩:ByteArray)then
 (ix a3 0).bind fun x201=>
 (p0j ((x201.kind:Int)==0,())).bind fun(y202,_)=>some ((Ev.Val.mk y202.kind y202.n y202.s y202.l),())
 else
 (bif seq a2.name (⟨#[105,110]⟩:ByteArray)then
 (ix a3 1).bind fun x203=>
 (bif (x203.kind:Int) !=4 then some ((Ev.Val.mk 0 0 (⟨#[]⟩:ByteArray) ([]:List Ev.Val)),())
 else
 (p0j (false,())).bind fun(y204,_)=>
 (ix a3 1).bind fun x205=>
 a0a (fun rc208=>o0c n rc208 (fun(o206,o207,_)=>some ((Ev.Val.mk o207.1.kind o207.1.n o207.1.s o207.1.l),())) (fun(_)=>none)) (n) (a3,x205.l,(x205.l.length:Int),0,((Ev.Val.mk 0 0 (⟨#[]⟩:ByteArray) ([]:List Ev.Val)),()),((Ev.Val.mk y204.kind y204.n y204.s y204.l),()),()))
 else
 (bif seq a2.name (⟨#[115,105,122,101]⟩:ByteArray)then
 (ix a3 0).bind fun x209=>
 (bif (x209.kind:Int)==3 then
 (ix a3 0).bind fun x210=>some ((Ev.Val.mk 2 ((b0b x210.s).length:Int) (⟨#[]⟩:ByteArray) ([]:List Ev.Val)),())
 else
 (bif (x209.kind:Int)==4 then
 (ix a3 0).bind fun x211=>some ((Ev.Val.mk 2 (x211.l.length:Int) (⟨#[]⟩:ByteArray) ([]:List Ev.Val)),())
 else some ((Ev.Val.mk 0 0 (⟨#[]⟩:ByteArray) ([]:List Ev.Val)),())))
 else
 (bif seq a2.name (⟨#[104,101,97,100]⟩:ByteArray)then
 (ix a3 0).bind fun x212=>
 (bif (x212.kind:Int)==4 then
 (ix a3 0).bind fun x213=>
 (bif decide (((x213.l.length:Int):Int) >0)then
 (ix a3 0).bind fun x214=>
 (ix x214.l 0).bind fun x215=>some ((Ev.Val.mk x215.kind x215.n x215.s x215.l),())
 else some ((Ev.Val.mk 0 0 (⟨#[]⟩:ByteArray) ([]:List Ev.Val)),()))
 else some ((Ev.Val.mk 0 0 (⟨#[]⟩:ByteArray) ([]:List Ev.Val)),()))
 else
 (bif seq a2.name (⟨#[99,111,97,108,101,115,99,101]⟩:ByteArray)then
 a0a (fun rc218=>q0b n rc218 (fun(o216,_)=>some ((Ev.Val.mk 0 0 (⟨#[]⟩:ByteArray) ([]:List Ev.Val)),())) (fun(o217,_)=>some ((Ev.Val.mk o217.1.kind o217.1.n o217.1.s o217.1.l),()))) (n) (a3,(a3.length:Int),0,((Ev.Val.mk 0 0 (⟨#[]⟩:ByteArray) ([]:List Ev.Val)),()),())
 else
 (bif seq a2.name (⟨#[108,105,115,116]⟩:ByteArray)then
 (q89z n ((Ev.Val.mk 4 0 (⟨#[]⟩:ByteArray) a3),())).bind fun(y219,_)=>
 (bif (y219:Int)==0 then some ((Ev.Val.mk 4 0 (⟨#[]⟩:ByteArray) a3),())
 else some ((Ev.Val.mk 0 0 (⟨#[]⟩:ByteArray) ([]:List Ev.Val)),()))
 else
 (bif seq a2.name (⟨#[105,100]⟩:ByteArray)then
 (ix a3 0).bind fun x220=>some ((Ev.Val.mk x220.kind x220.n x220.s x220.l),())
 else
 (bif seq a2.name (⟨#[116,121,112,101]⟩:ByteArray)then
 (ix a3 0).bind fun x222=>
 (q71z n ((Ev.Graph.mk a1.g.nodes a1.g.edges a1.g.next),x222.n,())).bind fun(y223,_)=>
 (bif decide ((y223:Int) ≥0)then
 (ix a1.g.edges y223).bind fun x224=>some ((Ev.Val.mk 3 0 x224.type ([]:List Ev.Val)),())
 else some ((Ev.Val.mk 0 0 (⟨#[]⟩:ByteArray) ([]:List Ev.Val)),()))
 else some ((Ev.Val.mk 0 0 (⟨#[]⟩:ByteArray) ([]:List Ev.Val)),()))))))))))))))))))
def g0u{ρ:Type}(self_q72z:Ev.Envr×Ev.Term×Unit→Option Y5)(n:Nat)(kr:Unit→Option ρ):Int→Ev.Term→(Y19×Y17×Y5×Y12×Unit)→((Y19×Y17×Y5×Y12×Unit)→Option ρ)→Option ρ:=
 fun v10 x15 (o11,o12,o13,o14,_) rec=>
 (self_q72z ((Ev.Envr.mk (Ev.Graph.mk o11.1.g.nodes o11.1.g.edges o11.1.g.next) o11.1.at_),(Ev.Term.mk x15.kind (Ev.Val.mk x15.v.kind x15.v.n x15.v.s x15.v.l) x15.name x15.a),())).bind fun(y16,_)=>
 ck (room (o14++([(Ev.Val.mk y16.kind y16.n y16.s y16.l)]:List Ev.Val)).length 56) (rec (((Ev.Envr.mk (Ev.Graph.mk o11.1.g.nodes o11.1.g.edges o11.1.g.next) o11.1.at_),()),((Ev.Term.mk o12.1.kind (Ev.Val.mk o12.1.v.kind o12.1.v.n o12.1.v.s o12.1.v.l) o12.1.name o12.1.a),()),((Ev.Val.mk o13.1.kind o13.1.n o13.1.s o13.1.l),()),o14++([(Ev.Val.mk y16.kind y16.n y16.s y16.l)]:List Ev.Val),()))
def b1o{ρ:Type}(self_q72z:Ev.Envr×Ev.Term×Unit→Option Y5)(n:Nat)(rec:Y25×Int×Int×Y19×Y17×Y5×Y12×Unit→Option ρ)(kx:Y19×Y17×Y5×Y12×Unit→Option ρ)(kr:Unit→Option ρ):Y25×Int×Int×Y19×Y17×Y5×Y12×Unit→Option ρ:=
 fun(v8,v9,v10,o11,o12,o13,o14,_)=>
 (bif decide ((v10:Int)<v9)then
 (ix v8 v10).bind fun x15=>g0u self_q72z n kr v10 x15 (o11,o12,o13,o14,()) (fun(w3,w4,w5,w6,_)=>rec (v8,v9,IntKind.wrap .i64 (v10+1),w3,w4,w5,w6,()))
 else kx (((Ev.Envr.mk (Ev.Graph.mk o11.1.g.nodes o11.1.g.edges o11.1.g.next) o11.1.at_),()),((Ev.Term.mk o12.1.kind (Ev.Val.mk o12.1.v.kind o12.1.v.n o12.1.v.s o12.1.v.l) o12.1.name o12.1.a),()),((Ev.Val.mk o13.1.kind o13.1.n o13.1.s o13.1.l),()),o14,()))
theorem o1m{ρ:Type}(self_q72z:Ev.Envr×Ev.Term×Unit→Option Y5)(n:Nat)(kx:Y19×Y17×Y5×Y12×Unit→Option ρ)(kr:Unit→Option ρ)(l:List Ev.Term)(fuel:Nat)(o11:Ev.Envr×Unit)(o12:Ev.Term×Unit)(o13:Ev.Val×Unit)(o14:List Ev.Val)(hl:l.length≤9223372036854775807)(hf:l.length<fuel):
  a0a (fun rc=>b1o self_q72z n rc kx kr) fuel (l,(l.length:Int),0,o11,o12,o13,o14,())=a0c (g0u self_q72z n kr) (fun(o11,o12,o13,o14,_)=>kx (((Ev.Envr.mk (Ev.Graph.mk o11.1.g.nodes o11.1.g.edges o11.1.g.next) o11.1.at_),()),((Ev.Term.mk o12.1.kind (Ev.Val.mk o12.1.v.kind o12.1.v.n o12.1.v.s o12.1.v.l) o12.1.name o12.1.a),()),((Ev.Val.mk o13.1.kind o13.1.n o13.1.s o13.1.l),()),o14,())) 0 l (o11,o12,o13,o14,()):=
 a0d l (fun i (o11,o12,o13,o14,_)=>(l,(l.length:Int),i,o11,o12,o13,o14,())) _ _ _ (fun rec i s=>rfl) hl fuel (o11,o12,o13,o14,()) hf
def y0d(self_q72z:Ev.Envr×Ev.Term×Unit→Option Y5)(n:Nat):Ev.Envr×Ev.Term×Unit→Option Y5:=
 fun(a1,a2,_)=>
 (bif (a2.kind:Int)==1 then
 (l0d n ((Ev.Val.mk a2.v.kind a2.v.n a2.v.s a2.v.l),())).bind fun(y3,_)=>some ((Ev.Val.mk y3.kind y3.n y3.s y3.l),())
 else
 (bif (a2.kind:Int)==2 then some ((Ev.Val.mk 2 (a0g .str .i64 0 a1.at_ a2.name) (⟨#[]⟩:ByteArray) ([]:List Ev.Val)),())
 else
 (bif (a2.kind:Int)==3 then
 (ix a2.a 0).bind fun x6=>
 (q73z n ((Ev.Envr.mk (Ev.Graph.mk a1.g.nodes a1.g.edges a1.g.next) a1.at_),(a0g .str .i64 0 a1.at_ x6.name),a2.name,())).bind fun(y7,_)=>some ((Ev.Val.mk y7.kind y7.n y7.s y7.l),())
 else
 a0a (fun rc22=>b1o self_q72z n rc22 (fun(o17,o18,o19,o20,_)=>
 (q77z n ((Ev.Envr.mk (Ev.Graph.mk o17.1.g.nodes o17.1.g.edges o17.1.g.next) o17.1.at_),(Ev.Term.mk o18.1.kind (Ev.Val.mk o18.1.v.kind o18.1.v.n o18.1.v.s o18.1.v.l) o18.1.name o18.1.a),o20,())).bind fun(y21,_)=>some ((Ev.Val.mk y21.kind y21.n y21.s y21.l),())) (fun(_)=>none)) (n) (a2.a,(a2.a.length:Int),0,((Ev.Envr.mk (Ev.Graph.mk a1.g.nodes a1.g.edges a1.g.next) a1.at_),()),((Ev.Term.mk a2.kind (Ev.Val.mk a2.v.kind a2.v.n a2.v.s a2.v.l) a2.name a2.a),()),((Ev.Val.mk 0 0 (⟨#[]⟩:ByteArray) ([]:List Ev.Val)),()),([]:List Ev.Val),()))))
def q72z:Nat→Ev.Envr×Ev.Term×Unit→Option Y5
 | 0,_=>none
 | n+1,x=>y0d (q72z n) n x
def k0l{ρ:Type}(n:Nat)(kr:Bool×Unit→Option ρ):Int→Ev.Term→(Y19×Unit)→((Y19×Unit)→Option ρ)→Option ρ:=
 fun v5 x7 (o6,_) rec=>
 (q72z n ((Ev.Envr.mk (Ev.Graph.mk o6.1.g.nodes o6.1.g.edges o6.1.g.next) o6.1.at_),(Ev.Term.mk x7.kind (Ev.Val.mk x7.v.kind x7.v.n x7.v.s x7.v.l) x7.name x7.a),())).bind fun(y8,_)=>
 (v0f ((Ev.Val.mk y8.kind y8.n y8.s y8.l),())).bind fun(y9,y10,_)=>
 (bif (!y10) || (!y9)then kr (false,())
 else rec (((Ev.Envr.mk (Ev.Graph.mk o6.1.g.nodes o6.1.g.edges o6.1.g.next) o6.1.at_),()),()))
def z0k{ρ:Type}(n:Nat)(rec:Y25×Int×Int×Y19×Unit→Option ρ)(kx:Unit→Option ρ)(kr:Bool×Unit→Option ρ):Y25×Int×Int×Y19×Unit→Option ρ:=
 fun(v3,v4,v5,o6,_)=>
 (bif decide ((v5:Int)<v4)then
 (ix v3 v5).bind fun x7=>k0l n kr v5 x7 (o6,()) (fun(w3,_)=>rec (v3,v4,IntKind.wrap .i64 (v5+1),w3,()))
 else kx (()))
theorem k1j{ρ:Type}(n:Nat)(kx:Unit→Option ρ)(kr:Bool×Unit→Option ρ)(l:List Ev.Term)(fuel:Nat)(o6:Ev.Envr×Unit)(hl:l.length≤9223372036854775807)(hf:l.length<fuel):
  a0a (fun rc=>z0k n rc kx kr) fuel (l,(l.length:Int),0,o6,())=a0c (k0l n kr) (fun(o6,_)=>kx (())) 0 l (o6,()):=
 a0d l (fun i (o6,_)=>(l,(l.length:Int),i,o6,())) _ _ _ (fun rec i s=>rfl) hl fuel (o6,()) hf
def q70z(n:Nat):Ev.Envr×Y25×Unit→Option Y13:=
 fun(a1,a2,_)=>
 a0a (fun rc12=>z0k n rc12 (fun(_)=>some (true,())) (fun(v11,_)=>some (v11,()))) (n) (a2,(a2.length:Int),0,((Ev.Envr.mk (Ev.Graph.mk a1.g.nodes a1.g.edges a1.g.next) a1.at_),()),())
def q84z:Y0×Unit×Y8×Y13×Unit→Option (Y0×Unit×Y8×Y13×Unit):=
 fun(o1,o2,o3,o4,_)=>
 (bif ((o3.length:Int):Int)==2000 then some (o1,(()),o3,(true,()),())
 else
 (q11z (o1,())).bind fun(o6,_)=>
 ck (room (o3++([o6]:List Y0)).length 24) (some (o1,(()),o3++([o6]:List Y0),(o4.1,()),())))
def q53z(n:Nat):Int×Ev.Node×Y1×Unit→Option (Bool×Y1×Unit):=
 fun(a1,a2,o3,_)=>
 (ix o3.1.dots a1).bind fun x4=>
 (bif seq x4.label (⟨#[]⟩:ByteArray)then some (true,((Ev.Query.mk o3.1.dots o3.1.arrows o3.1.wher o3.1.items o3.1.dist),(Ev.Graph.mk o3.2.1.nodes o3.2.1.edges o3.2.1.next),o3.2.2.1,()),())
 else
 (q7z n (a2.labels,x4.label,())).bind fun(y5,_)=>some (y5,((Ev.Query.mk o3.1.dots o3.1.arrows o3.1.wher o3.1.items o3.1.dist),(Ev.Graph.mk o3.2.1.nodes o3.2.1.edges o3.2.1.next),o3.2.2.1,()),()))
def p0b{ρ:Type}(n:Nat)(rec:Int×Int×Int×Y1×Y0×Unit→Option ρ)(kx:Y1×Y0×Unit→Option ρ)(kr:Bool×Y1×Y0×Unit→Option ρ):Int×Int×Int×Y1×Y0×Unit→Option ρ:=
 fun(v4,v5,v6,o7,o8,_)=>
 (bif decide ((v6:Int)<v5)then
 (ix o7.1.dots v6).bind fun x14=>
 (bif !(seq x14.name (⟨#[]⟩:ByteArray))then
 (ix o7.1.dots v6).bind fun x15=>
 (ix o7.1.dots v4).bind fun x16=>
 (bif seq x15.name x16.name then
 (ix o8 v6).bind fun _=>
 ((o8)[(v6:Int).toNat]?).bind fun e17=>
 (ix o8 v4).bind fun _=>
 ((o8)[(v4:Int).toNat]?).bind fun e18=>
 (bif (e17:Int) !=e18 then kr (false,((Ev.Query.mk o7.1.dots o7.1.arrows o7.1.wher o7.1.items o7.1.dist),(Ev.Graph.mk o7.2.1.nodes o7.2.1.edges o7.2.1.next),o7.2.2.1,()),o8,())
 else rec (v4,v5,IntKind.wrap .i64 (v6+1),((Ev.Query.mk o7.1.dots o7.1.arrows o7.1.wher o7.1.items o7.1.dist),(Ev.Graph.mk o7.2.1.nodes o7.2.1.edges o7.2.1.next),o7.2.2.1,()),o8,()))
 else rec (v4,v5,IntKind.wrap .i64 (v6+1),((Ev.Query.mk o7.1.dots o7.1.arrows o7.1.wher o7.1.items o7.1.dist),(Ev.Graph.mk o7.2.1.nodes o7.2.1.edges o7.2.1.next),o7.2.2.1,()),o8,()))
 else rec (v4,v5,IntKind.wrap .i64 (v6+1),((Ev.Query.mk o7.1.dots o7.1.arrows o7.1.wher o7.1.items o7.1.dist),(Ev.Graph.mk o7.2.1.nodes o7.2.1.edges o7.2.1.next),o7.2.2.1,()),o8,()))
 else kx (((Ev.Query.mk o7.1.dots o7.1.arrows o7.1.wher o7.1.items o7.1.dist),(Ev.Graph.mk o7.2.1.nodes o7.2.1.edges o7.2.1.next),o7.2.2.1,()),o8,()))
def q46z(n:Nat):Int×Y1×Y0×Unit→Option (Bool×Y1×Y0×Unit):=
 fun(a1,o2,o3,_)=>
 a0a (fun rc24=>p0b n rc24 (fun(o19,o20,_)=>some (true,((Ev.Query.mk o19.1.dots o19.1.arrows o19.1.wher o19.1.items o19.1.dist),(Ev.Graph.mk o19.2.1.nodes o19.2.1.edges o19.2.1.next),o19.2.2.1,()),o20,())) (fun(v21,o22,o23,_)=>some (v21,((Ev.Query.mk o22.1.dots o22.1.arrows o22.1.wher o22.1.items o22.1.dist),(Ev.Graph.mk o22.2.1.nodes o22.2.1.edges o22.2.1.next),o22.2.2.1,()),o23,()))) (n) (a1,a1,0,((Ev.Query.mk o2.1.dots o2.1.arrows o2.1.wher o2.1.items o2.1.dist),(Ev.Graph.mk o2.2.1.nodes o2.2.1.edges o2.2.1.next),o2.2.2.1,()),o3,())
def k0o{ρ:Type}(self_q6z:Int×Y1×Y0×Unit×Y8×Y13×Unit→Option Y23)(n:Nat)(kr:Unit→Option ρ):Int→Ev.Edg→Y22→(Y22→Option ρ)→Option ρ:=
 fun v88 x95 (v79,v80,v81,v82,v83,v84,v85,o89,o90,o91,o92,o93,o94,_) rec=>
 (bif (((x95.src:Int)==v81)&& ((x95.dst:Int)==v82))&& ((seq o89.1.type (⟨#[]⟩:ByteArray)) || (seq x95.type o89.1.type))then
 (ix o94 (IntKind.wrap .i64 ((IntKind.wrap .i64 (v80+v79)) - 1))).bind fun _=>
 ((o94)[(IntKind.wrap .i64 ((IntKind.wrap .i64 (v80+v79)) - 1):Int).toNat]?).bind fun e96=>
 (self_q6z (IntKind.wrap .i64 (v79+1),((Ev.Query.mk o90.1.dots o90.1.arrows o90.1.wher o90.1.items o90.1.dist),(Ev.Graph.mk o90.2.1.nodes o90.2.1.edges o90.2.1.next),o90.2.2.1,()),(o94).set ((IntKind.wrap .i64 ((IntKind.wrap .i64 (v80+v79)) - 1):Int).toNat) x95.id,(()),o92,(o93.1,()),())).bind fun(o97,o98,o99,o100,o101,_)=>rec (v79,v80,v81,v82,v83,v84,v85,((Ev.Arrow.mk o89.1.name o89.1.type o89.1.back o89.1.many),()),((Ev.Query.mk o97.1.dots o97.1.arrows o97.1.wher o97.1.items o97.1.dist),(Ev.Graph.mk o97.2.1.nodes o97.2.1.edges o97.2.1.next),o97.2.2.1,()),(()),o100,(o101.1,()),o98,())
 else rec (v79,v80,v81,v82,v83,v84,v85,((Ev.Arrow.mk o89.1.name o89.1.type o89.1.back o89.1.many),()),((Ev.Query.mk o90.1.dots o90.1.arrows o90.1.wher o90.1.items o90.1.dist),(Ev.Graph.mk o90.2.1.nodes o90.2.1.edges o90.2.1.next),o90.2.2.1,()),(()),o92,(o93.1,()),o94,()))
def f1d{ρ:Type}(self_q6z:Int×Y1×Y0×Unit×Y8×Y13×Unit→Option Y23)(n:Nat)(rec:Int×Int×Int×Int×Y11×Int×Int×Y31×Int×Int×(Ev.Arrow×Unit)×Y1×Unit×Y8×Y13×Y0×Unit→Option ρ)(kx:Int×Int×Y11×Int×Int×Y1×Unit×Y8×Y13×Y0×Unit→Option ρ)(kr:Unit→Option ρ):Int×Int×Int×Int×Y11×Int×Int×Y31×Int×Int×(Ev.Arrow×Unit)×Y1×Unit×Y8×Y13×Y0×Unit→Option ρ:=
 fun(v79,v80,v81,v82,v83,v84,v85,v86,v87,v88,o89,o90,o91,o92,o93,o94,_)=>
 (bif decide ((v88:Int)<v87)then
 (ix v86 v88).bind fun x95=>k0o self_q6z n kr v88 x95 (v79,v80,v81,v82,v83,v84,v85,o89,o90,o91,o92,o93,o94,()) (fun(w0,w1,w2,w3,w4,w5,w6,w10,w11,w12,w13,w14,w15,_)=>rec (w0,w1,w2,w3,w4,w5,w6,v86,v87,IntKind.wrap .i64 (v88+1),w10,w11,w12,w13,w14,w15,()))
 else kx (v79,v80,v83,v84,v85,((Ev.Query.mk o90.1.dots o90.1.arrows o90.1.wher o90.1.items o90.1.dist),(Ev.Graph.mk o90.2.1.nodes o90.2.1.edges o90.2.1.next),o90.2.2.1,()),(()),o92,(o93.1,()),o94,()))
def e0h{ρ:Type}(self_q6z:Int×Y1×Y0×Unit×Y8×Y13×Unit→Option Y23)(n:Nat)(rec:Int×Int×Y11×Int×Int×Y1×Unit×Y8×Y13×Y0×Unit→Option ρ)(kx:Y1×Unit×Y8×Y13×Y0×Unit→Option ρ)(kr:Unit→Option ρ):Int×Int×Y11×Int×Int×Y1×Unit×Y8×Y13×Y0×Unit→Option ρ:=
 fun(v47,v48,v49,v50,v51,o52,o53,o54,o55,o56,_)=>
 (bif decide ((v51:Int)<v50)then
 (ix v49 v51).bind fun x57=>
 (q53z n (v47,(Ev.Node.mk x57.id x57.labels x57.props),((Ev.Query.mk o52.1.dots o52.1.arrows o52.1.wher o52.1.items o52.1.dist),(Ev.Graph.mk o52.2.1.nodes o52.2.1.edges o52.2.1.next),o52.2.2.1,()),())).bind fun(y58,o59,_)=>
 (bif !y58 then rec (v47,v48,v49,v50,IntKind.wrap .i64 (v51+1),((Ev.Query.mk o59.1.dots o59.1.arrows o59.1.wher o59.1.items o59.1.dist),(Ev.Graph.mk o59.2.1.nodes o59.2.1.edges o59.2.1.next),o59.2.2.1,()),(()),o54,(o55.1,()),o56,())
 else
 (ix o56 v47).bind fun _=>
 ((o56)[(v47:Int).toNat]?).bind fun e60=>
 (q46z n (v47,((Ev.Query.mk o59.1.dots o59.1.arrows o59.1.wher o59.1.items o59.1.dist),(Ev.Graph.mk o59.2.1.nodes o59.2.1.edges o59.2.1.next),o59.2.2.1,()),(o56).set ((v47:Int).toNat) x57.id,())).bind fun(y61,o62,o63,_)=>
 (bif !y61 then rec (v47,v48,v49,v50,IntKind.wrap .i64 (v51+1),((Ev.Query.mk o62.1.dots o62.1.arrows o62.1.wher o62.1.items o62.1.dist),(Ev.Graph.mk o62.2.1.nodes o62.2.1.edges o62.2.1.next),o62.2.2.1,()),(()),o54,(o55.1,()),o63,())
 else
 (bif (v47:Int)==0 then
 (self_q6z (1,((Ev.Query.mk o62.1.dots o62.1.arrows o62.1.wher o62.1.items o62.1.dist),(Ev.Graph.mk o62.2.1.nodes o62.2.1.edges o62.2.1.next),o62.2.2.1,()),o63,(()),o54,(o55.1,()),())).bind fun(o64,o65,o66,o67,o68,_)=>rec (v47,v48,v49,v50,IntKind.wrap .i64 (v51+1),((Ev.Query.mk o64.1.dots o64.1.arrows o64.1.wher o64.1.items o64.1.dist),(Ev.Graph.mk o64.2.1.nodes o64.2.1.edges o64.2.1.next),o64.2.2.1,()),(()),o67,(o68.1,()),o65,())
 else
 (ix o62.1.arrows (IntKind.wrap .i64 (v47 - 1))).bind fun x69=>
 (ix o63 (IntKind.wrap .i64 (v47 - 1))).bind fun _=>
 ((o63)[(IntKind.wrap .i64 (v47 - 1):Int).toNat]?).bind fun e71=>
 (bif x69.back then
 (bif x69.many then
 (ix o62.2.2.1 (IntKind.wrap .i64 (v47 - 1))).bind fun x72=>
 (bif (a0g .pair .bool false x72 (Ev.Pair.mk x57.id e71))then
 (ix o63 (IntKind.wrap .i64 ((IntKind.wrap .i64 (v48+v47)) - 1))).bind fun _=>
 ((o63)[(IntKind.wrap .i64 ((IntKind.wrap .i64 (v48+v47)) - 1):Int).toNat]?).bind fun e73=>
 (self_q6z (IntKind.wrap .i64 (v47+1),((Ev.Query.mk o62.1.dots o62.1.arrows o62.1.wher o62.1.items o62.1.dist),(Ev.Graph.mk o62.2.1.nodes o62.2.1.edges o62.2.1.next),o62.2.2.1,()),(o63).set ((IntKind.wrap .i64 ((IntKind.wrap .i64 (v48+v47)) - 1):Int).toNat) 0,(()),o54,(o55.1,()),())).bind fun(o74,o75,o76,o77,o78,_)=>rec (v47,v48,v49,v50,IntKind.wrap .i64 (v51+1),((Ev.Query.mk o74.1.dots o74.1.arrows o74.1.wher o74.1.items o74.1.dist),(Ev.Graph.mk o74.2.1.nodes o74.2.1.edges o74.2.1.next),o74.2.2.1,()),(()),o77,(o78.1,()),o75,())
 else rec (v47,v48,v49,v50,IntKind.wrap .i64 (v51+1),((Ev.Query.mk o62.1.dots o62.1.arrows o62.1.wher o62.1.items o62.1.dist),(Ev.Graph.mk o62.2.1.nodes o62.2.1.edges o62.2.1.next),o62.2.2.1,()),(()),o54,(o55.1,()),o63,()))
 else
 a0a (fun rc112=>f1d self_q6z n rc112 (fun(v102,v103,v104,v105,v106,o107,o108,o109,o110,o111,_)=>rec (v102,v103,v104,v105,IntKind.wrap .i64 (v106+1),((Ev.Query.mk o107.1.dots o107.1.arrows o107.1.wher o107.1.items o107.1.dist),(Ev.Graph.mk o107.2.1.nodes o107.2.1.edges o107.2.1.next),o107.2.2.1,()),(()),o109,(o110.1,()),o111,())) (fun(_)=>none)) (n) (v47,v48,x57.id,e71,v49,v50,v51,o62.2.1.edges,(o62.2.1.edges.length:Int),0,((Ev.Arrow.mk x69.name x69.type x69.back x69.many),()),((Ev.Query.mk o62.1.dots o62.1.arrows o62.1.wher o62.1.items o62.1.dist),(Ev.Graph.mk o62.2.1.nodes o62.2.1.edges o62.2.1.next),o62.2.2.1,()),(()),o54,(o55.1,()),o63,()))
 else
 (bif x69.many then
 (ix o62.2.2.1 (IntKind.wrap .i64 (v47 - 1))).bind fun x113=>
 (bif (a0g .pair .bool false x113 (Ev.Pair.mk e71 x57.id))then
 (ix o63 (IntKind.wrap .i64 ((IntKind.wrap .i64 (v48+v47)) - 1))).bind fun _=>
 ((o63)[(IntKind.wrap .i64 ((IntKind.wrap .i64 (v48+v47)) - 1):Int).toNat]?).bind fun e114=>
 (self_q6z (IntKind.wrap .i64 (v47+1),((Ev.Query.mk o62.1.dots o62.1.arrows o62.1.wher o62.1.items o62.1.dist),(Ev.Graph.mk o62.2.1.nodes o62.2.1.edges o62.2.1.next),o62.2.2.1,()),(o63).set ((IntKind.wrap .i64 ((IntKind.wrap .i64 (v48+v47)) - 1):Int).toNat) 0,(()),o54,(o55.1,()),())).bind fun(o115,o116,o117,o118,o119,_)=>rec (v47,v48,v49,v50,IntKind.wrap .i64 (v51+1),((Ev.Query.mk o115.1.dots o115.1.arrows o115.1.wher o115.1.items o115.1.dist),(Ev.Graph.mk o115.2.1.nodes o115.2.1.edges o115.2.1.next),o115.2.2.1,()),(()),o118,(o119.1,()),o116,())
 else rec (v47,v48,v49,v50,IntKind.wrap .i64 (v51+1),((Ev.Query.mk o62.1.dots o62.1.arrows o62.1.wher o62.1.items o62.1.dist),(Ev.Graph.mk o62.2.1.nodes o62.2.1.edges o62.2.1.next),o62.2.2.1,()),(()),o54,(o55.1,()),o63,()))
 else
 a0a (fun rc130=>f1d self_q6z n rc130 (fun(v120,v121,v122,v123,v124,o125,o126,o127,o128,o129,_)=>rec (v120,v121,v122,v123,IntKind.wrap .i64 (v124+1),((Ev.Query.mk o125.1.dots o125.1.arrows o125.1.wher o125.1.items o125.1.dist),(Ev.Graph.mk o125.2.1.nodes o125.2.1.edges o125.2.1.next),o125.2.2.1,()),(()),o127,(o128.1,()),o129,())) (fun(_)=>none)) (n) (v47,v48,e71,x57.id,v49,v50,v51,o62.2.1.edges,(o62.2.1.edges.length:Int),0,((Ev.Arrow.mk x69.name x69.type x69.back x69.many),()),((Ev.Query.mk o62.1.dots o62.1.arrows o62.1.wher o62.1.items o62.1.dist),(Ev.Graph.mk o62.2.1.nodes o62.2.1.edges o62.2.1.next),o62.2.2.1,()),(()),o54,(o55.1,()),o63,()))))))
 else kx (((Ev.Query.mk o52.1.dots o52.1.arrows o52.1.wher o52.1.items o52.1.dist),(Ev.Graph.mk o52.2.1.nodes o52.2.1.edges o52.2.1.next),o52.2.2.1,()),(()),o54,(o55.1,()),o56,()))
theorem f1p{ρ:Type}(self_q6z:Int×Y1×Y0×Unit×Y8×Y13×Unit→Option Y23)(n:Nat)(kx:Int×Int×Y11×Int×Int×Y1×Unit×Y8×Y13×Y0×Unit→Option ρ)(kr:Unit→Option ρ)(l:List Ev.Edg)(fuel:Nat)(v79:Int)(v80:Int)(v81:Int)(v82:Int)(v83:List Ev.Node)(v84:Int)(v85:Int)(o89:Ev.Arrow×Unit)(o90:Ev.Query×Ev.Graph×Y21×Unit)(o91:Unit)(o92:List Y0)(o93:Bool×Unit)(o94:List Int)(hl:l.length≤9223372036854775807)(hf:l.length<fuel):
  a0a (fun rc=>f1d self_q6z n rc kx kr) fuel (v79,v80,v81,v82,v83,v84,v85,l,(l.length:Int),0,o89,o90,o91,o92,o93,o94,())=a0c (k0o self_q6z n kr) (fun(v79,v80,v81,v82,v83,v84,v85,o89,o90,o91,o92,o93,o94,_)=>kx (v79,v80,v83,v84,v85,((Ev.Query.mk o90.1.dots o90.1.arrows o90.1.wher o90.1.items o90.1.dist),(Ev.Graph.mk o90.2.1.nodes o90.2.1.edges o90.2.1.next),o90.2.2.1,()),(()),o92,(o93.1,()),o94,())) 0 l (v79,v80,v81,v82,v83,v84,v85,o89,o90,o91,o92,o93,o94,()):=
 a0d l (fun i (v79,v80,v81,v82,v83,v84,v85,o89,o90,o91,o92,o93,o94,_)=>(v79,v80,v81,v82,v83,v84,v85,l,(l.length:Int),i,o89,o90,o91,o92,o93,o94,())) _ _ _ (fun rec i s=>rfl) hl fuel (v79,v80,v81,v82,v83,v84,v85,o89,o90,o91,o92,o93,o94,()) hf
def s1a(self_q6z:Int×Y1×Y0×Unit×Y8×Y13×Unit→Option Y23)(n:Nat):Int×Y1×Y0×Unit×Y8×Y13×Unit→Option Y23:=
 fun(a1,o2,o3,o4,o5,o6,_)=>
 (bif (a1:Int)==(o2.1.dots.length:Int)then
 dem2 (
 (q54z n (((Ev.Query.mk o2.1.dots o2.1.arrows o2.1.wher o2.1.items o2.1.dist),(Ev.Graph.mk o2.2.1.nodes o2.2.1.edges o2.2.1.next),o2.2.2.1,()),o3,())).bind fun(y7,o8,o9,_)=>
 (q70z n ((Ev.Envr.mk (Ev.Graph.mk y7.g.nodes y7.g.edges y7.g.next) y7.at_),o8.1.wher,())).bind fun(y10,_)=>
 (bif y10 then
 (q84z (o9,(()),o5,(o6.1,()),())).bind fun(o11,o12,o13,o14,_)=>some (((Ev.Query.mk o8.1.dots o8.1.arrows o8.1.wher o8.1.items o8.1.dist),(Ev.Graph.mk o8.2.1.nodes o8.2.1.edges o8.2.1.next),o8.2.2.1,()),o11,(()),o13,(o14.1,()),())
 else some (((Ev.Query.mk o8.1.dots o8.1.arrows o8.1.wher o8.1.items o8.1.dist),(Ev.Graph.mk o8.2.1.nodes o8.2.1.edges o8.2.1.next),o8.2.2.1,()),o9,(()),o5,(o6.1,()),()))) (
 dem2 (
 (q54z n (((Ev.Query.mk o2.1.dots o2.1.arrows o2.1.wher o2.1.items o2.1.dist),(Ev.Graph.mk o2.2.1.nodes o2.2.1.edges o2.2.1.next),o2.2.2.1,()),o3,())).bind fun(y15,o16,o17,_)=>
 (q70z n ((Ev.Envr.mk (Ev.Graph.mk y15.g.nodes y15.g.edges y15.g.next) y15.at_),o16.1.wher,())).bind fun(y18,_)=>
 (bif y18 then
 (q84z (o17,(()),o5,(o6.1,()),())).bind fun(o19,o20,o21,o22,_)=>some (((Ev.Query.mk o16.1.dots o16.1.arrows o16.1.wher o16.1.items o16.1.dist),(Ev.Graph.mk o16.2.1.nodes o16.2.1.edges o16.2.1.next),o16.2.2.1,()),o19,(()),o21,(o22.1,()),())
 else some (((Ev.Query.mk o16.1.dots o16.1.arrows o16.1.wher o16.1.items o16.1.dist),(Ev.Graph.mk o16.2.1.nodes o16.2.1.edges o16.2.1.next),o16.2.2.1,()),o17,(()),o5,(o6.1,()),()))) (
 dem2 (
 (q54z n (((Ev.Query.mk o2.1.dots o2.1.arrows o2.1.wher o2.1.items o2.1.dist),(Ev.Graph.mk o2.2.1.nodes o2.2.1.edges o2.2.1.next),o2.2.2.1,()),o3,())).bind fun(y23,o24,o25,_)=>
 (q70z n ((Ev.Envr.mk (Ev.Graph.mk y23.g.nodes y23.g.edges y23.g.next) y23.at_),o24.1.wher,())).bind fun(y26,_)=>
 (bif y26 then
 (q84z (o25,(()),o5,(o6.1,()),())).bind fun(o27,o28,o29,o30,_)=>some (((Ev.Query.mk o24.1.dots o24.1.arrows o24.1.wher o24.1.items o24.1.dist),(Ev.Graph.mk o24.2.1.nodes o24.2.1.edges o24.2.1.next),o24.2.2.1,()),o27,(()),o29,(o30.1,()),())
 else some (((Ev.Query.mk o24.1.dots o24.1.arrows o24.1.wher o24.1.items o24.1.dist),(Ev.Graph.mk o24.2.1.nodes o24.2.1.edges o24.2.1.next),o24.2.2.1,()),o25,(()),o5,(o6.1,()),()))) (
 dem2 (
 (q54z n (((Ev.Query.mk o2.1.dots o2.1.arrows o2.1.wher o2.1.items o2.1.dist),(Ev.Graph.mk o2.2.1.nodes o2.2.1.edges o2.2.1.next),o2.2.2.1,()),o3,())).bind fun(y31,o32,o33,_)=>
 (q70z n ((Ev.Envr.mk (Ev.Graph.mk y31.g.nodes y31.g.edges y31.g.next) y31.at_),o32.1.wher,())).bind fun(y34,_)=>
 (bif y34 then
 (q84z (o33,(()),o5,(o6.1,()),())).bind fun(o35,o36,o37,o38,_)=>some (((Ev.Query.mk o32.1.dots o32.1.arrows o32.1.wher o32.1.items o32.1.dist),(Ev.Graph.mk o32.2.1.nodes o32.2.1.edges o32.2.1.next),o32.2.2.1,()),o35,(()),o37,(o38.1,()),())
 else some (((Ev.Query.mk o32.1.dots o32.1.arrows o32.1.wher o32.1.items o32.1.dist),(Ev.Graph.mk o32.2.1.nodes o32.2.1.edges o32.2.1.next),o32.2.2.1,()),o33,(()),o5,(o6.1,()),()))) (
 (q54z n (((Ev.Query.mk o2.1.dots o2.1.arrows o2.1.wher o2.1.items o2.1.dist),(Ev.Graph.mk o2.2.1.nodes o2.2.1.edges o2.2.1.next),o2.2.2.1,()),o3,())).bind fun(y39,o40,o41,_)=>
 (q70z n ((Ev.Envr.mk (Ev.Graph.mk y39.g.nodes y39.g.edges y39.g.next) y39.at_),o2.1.wher,())).bind fun(y42,_)=>
 (bif y42 then
 (q84z (o41,(()),o5,(o6.1,()),())).bind fun(o43,o44,o45,o46,_)=>some (((Ev.Query.mk o40.1.dots o40.1.arrows o40.1.wher o40.1.items o40.1.dist),(Ev.Graph.mk o40.2.1.nodes o40.2.1.edges o40.2.1.next),o40.2.2.1,()),o43,(()),o45,(o46.1,()),())
 else some (((Ev.Query.mk o40.1.dots o40.1.arrows o40.1.wher o40.1.items o40.1.dist),(Ev.Graph.mk o40.2.1.nodes o40.2.1.edges o40.2.1.next),o40.2.2.1,()),o41,(()),o5,(o6.1,()),()))))))
 else
 a0a (fun rc136=>e0h self_q6z n rc136 (fun(o131,o132,o133,o134,o135,_)=>some (((Ev.Query.mk o131.1.dots o131.1.arrows o131.1.wher o131.1.items o131.1.dist),(Ev.Graph.mk o131.2.1.nodes o131.2.1.edges o131.2.1.next),o131.2.2.1,()),o135,(()),o133,(o134.1,()),())) (fun(_)=>none)) (n) (a1,(o2.1.dots.length:Int),o2.2.1.nodes,(o2.2.1.nodes.length:Int),0,((Ev.Query.mk o2.1.dots o2.1.arrows o2.1.wher o2.1.items o2.1.dist),(Ev.Graph.mk o2.2.1.nodes o2.2.1.edges o2.2.1.next),o2.2.2.1,()),(()),o5,(o6.1,()),o3,()))
def q6z:Nat→Int×Y1×Y0×Unit×Y8×Y13×Unit→Option Y23
 | 0,_=>none
 | n+1,x=>s1a (q6z n) n x
def q5z(n:Nat):Y1×Unit×Y8×Y13×Unit→Option (Y1×Unit×Y8×Y13×Unit):=
 fun(o1,o2,o3,o4,_)=>
 (cnt? (IntKind.wrap .i64 ((o1.1.dots.length:Int)+(o1.1.arrows.length:Int)))).bind fun m6=>
 ck (room m6 8) (
 (q6z n (0,((Ev.Query.mk o1.1.dots o1.1.arrows o1.1.wher o1.1.items o1.1.dist),(Ev.Graph.mk o1.2.1.nodes o1.2.1.edges o1.2.1.next),o1.2.2.1,()),(List.replicate m6 0),(()),o3,(o4.1,()),())).bind fun(o7,o8,o9,o10,o11,_)=>some (((Ev.Query.mk o7.1.dots o7.1.arrows o7.1.wher o7.1.items o7.1.dist),(Ev.Graph.mk o7.2.1.nodes o7.2.1.edges o7.2.1.next),o7.2.2.1,()),(()),o10,(o11.1,()),()))
def d0g(n:Nat):Ev.Query×Ev.Graph×Unit→Option (Y8×Int×Unit):=
 fun(a1,a2,_)=>
 (q85z n ((Ev.Query.mk a1.dots a1.arrows a1.wher a1.items a1.dist),())).bind fun(y3,_)=>
 (bif (y3:Int) !=0 then some (([]:List Y0),y3,())
 else
 (q82z n ((Ev.Graph.mk a2.nodes a2.edges a2.next),())).bind fun(y4,_)=>
 (bif (y4:Int) !=0 then some (([]:List Y0),y4,())
 else
 (j0n n ((Ev.Query.mk a1.dots a1.arrows a1.wher a1.items a1.dist),(Ev.Graph.mk a2.nodes a2.edges a2.next),())).bind fun(o5,_)=>
 (q5z n (((Ev.Query.mk o5.1.dots o5.1.arrows o5.1.wher o5.1.items o5.1.dist),(Ev.Graph.mk o5.2.1.nodes o5.2.1.edges o5.2.1.next),o5.2.2.1,()),(()),([]:List Y0),(false,()),())).bind fun(o6,o7,o8,o9,_)=>
 (bif o9.1 then some (([]:List Y0),10,())
 else
 (sfLL (o8,())).bind fun(o10,_)=>some (o10,0,()))))
def q41z:ByteArray×Unit→Option Y13:=
 fun(a1,_)=>
 (bif (seq a1 (⟨#[]⟩:ByteArray)) || (decide (((a1.size:Int):Int) >12))then some (false,())
 else
 (sat a1 0).bind fun c2=>
 (bif decide ((c2:Int) ≥48)then
 (sat a1 0).bind fun c3=>
 (bif decide ((c3:Int)≤57)then some (false,())
 else
 (h1h (a1,(⟨#[97,98,99,100,101,102,103,104,105,106,107,108,109,110,111,112,113,114,115,116,117,118,119,120,121,122,65,66,67,68,69,70,71,72,73,74,75,76,77,78,79,80,81,82,83,84,85,86,87,88,89,90,48,49,50,51,52,53,54,55,56,57,95]⟩:ByteArray),())).bind fun(y4,_)=>some (seq y4 (⟨#[]⟩:ByteArray),()))
 else
 (h1h (a1,(⟨#[97,98,99,100,101,102,103,104,105,106,107,108,109,110,111,112,113,114,115,116,117,118,119,120,121,122,65,66,67,68,69,70,71,72,73,74,75,76,77,78,79,80,81,82,83,84,85,86,87,88,89,90,48,49,50,51,52,53,54,55,56,57,95]⟩:ByteArray),())).bind fun(y5,_)=>some (seq y5 (⟨#[]⟩:ByteArray),())))
def q19z:ByteArray×Unit→Option Y13:=
 fun(a1,_)=>
 (bif !(seq a1 (⟨#[]⟩:ByteArray))then
 (d0f (a1,(⟨#[32]⟩:ByteArray),())).bind fun(y2,_)=>
 (bif !y2 then
 (cat? (⟨#[32]⟩:ByteArray) a1).bind fun s3=>
 (cat? s3 (⟨#[32]⟩:ByteArray)).bind fun s4=>
 (d0f ((⟨#[32,109,97,116,99,104,32,119,104,101,114,101,32,114,101,116,117,114,110,32,100,105,115,116,105,110,99,116,32,97,115,32,97,110,100,32,111,114,32,110,111,116,32,105,110,32,105,115,32,110,117,108,108,32,116,114,117,101,32,102,97,108,115,101,32,99,111,117,110,116,32,115,117,109,32,109,105,110,32,109,97,120,32,115,105,122,101,32,104,101,97,100,32,99,111,97,108,101,115,99,101,32,105,100,32,116,121,112,101,32]⟩:ByteArray),s4,())).bind fun(y5,_)=>some (y5,())
 else some (false,()))
 else some (false,()))
def q40z:ByteArray×Unit→Option Y13:=
 fun(a1,_)=>
 (q41z (a1,())).bind fun(y2,_)=>
 (bif y2 then
 (q19z (a1,())).bind fun(y3,_)=>some (!y3,())
 else some (false,()))
def q75z:Y0×Y0×Unit→Option Y10:=
 fun(a1,a2,_)=>
 (cmpN (a1,a2,())).bind fun(y3,_)=>some (y3,())
def i0l{ρ:Type}(self_q34z:Ev.Val×Ev.Val×Unit→Option Y10)(n:Nat)(rec:Int×Y5×Y5×Unit→Option ρ)(kx:Y5×Y5×Unit→Option ρ)(kr:Int×Unit→Option ρ):Int×Y5×Y5×Unit→Option ρ:=
 fun(v4,o5,o6,_)=>
 (bif (decide ((v4:Int)< (o5.1.l.length:Int)))&& (decide ((v4:Int)< (o6.1.l.length:Int)))then
 (ix o5.1.l v4).bind fun x9=>
 (ix o6.1.l v4).bind fun x10=>
 (self_q34z ((Ev.Val.mk x9.kind x9.n x9.s x9.l),(Ev.Val.mk x10.kind x10.n x10.s x10.l),())).bind fun(y11,_)=>
 (bif (y11:Int) !=0 then kr (y11,())
 else rec (IntKind.wrap .i64 (v4+1),((Ev.Val.mk o5.1.kind o5.1.n o5.1.s o5.1.l),()),((Ev.Val.mk o6.1.kind o6.1.n o6.1.s o6.1.l),()),()))
 else kx (((Ev.Val.mk o5.1.kind o5.1.n o5.1.s o5.1.l),()),((Ev.Val.mk o6.1.kind o6.1.n o6.1.s o6.1.l),()),()))
def d1y(self_q34z:Ev.Val×Ev.Val×Unit→Option Y10)(n:Nat):Ev.Val×Ev.Val×Unit→Option Y10:=
 fun(a1,a2,_)=>
 (bif decide ((a1.kind:Int)<a2.kind)then some ((-1),())
 else
 (bif decide ((a1.kind:Int) >a2.kind)then some (1,())
 else
 (bif decide ((a1.n:Int)<a2.n)then some ((-1),())
 else
 (bif decide ((a1.n:Int) >a2.n)then some (1,())
 else
 (bif !(seq a1.s a2.s)then
 (q75z (d0w a1.s,d0w a2.s,())).bind fun(y3,_)=>some (y3,())
 else
 a0a (fun rc15=>i0l self_q34z n rc15 (fun(o12,o13,_)=>
 (bif decide (((o12.1.l.length:Int):Int)< (o13.1.l.length:Int))then some ((-1),())
 else
 (bif decide (((o12.1.l.length:Int):Int) >(o13.1.l.length:Int))then some (1,())
 else some (0,())))) (fun(v14,_)=>some (v14,()))) (n) (0,((Ev.Val.mk a1.kind a1.n a1.s a1.l),()),((Ev.Val.mk a2.kind a2.n a2.s a2.l),()),()))))))
def q34z:Nat→Ev.Val×Ev.Val×Unit→Option Y10
 | 0,_=>none
 | n+1,x=>d1y (q34z n) n x
def q23z(n:Nat):Ev.Val×Ev.Val×Unit→Option Y13:=
 fun(a1,a2,_)=>
 (q34z n ((Ev.Val.mk a1.kind a1.n a1.s a1.l),(Ev.Val.mk a2.kind a2.n a2.s a2.l),())).bind fun(y3,_)=>some ((y3:Int)==0,())
def o0o{ρ:Type}(self_q18z:Ev.Val×Int×Unit→Option Y10)(n:Nat)(rec:Int×Bool×Bool×Y12×Int×Int×Unit→Option ρ)(kx:Bool×Bool×Unit→Option ρ)(kr:Int×Unit→Option ρ):Int×Bool×Bool×Y12×Int×Int×Unit→Option ρ:=
 fun(v3,v4,v5,v6,v7,v8,_)=>
 (bif decide ((v8:Int)<v7)then
 (ix v6 v8).bind fun x9=>
 (self_q18z ((Ev.Val.mk x9.kind x9.n x9.s x9.l),IntKind.wrap .i64 (v3+1),())).bind fun(y10,_)=>
 (bif (y10:Int) !=0 then kr (y10,())
 else rec (v3,v4,v5,v6,v7,IntKind.wrap .i64 (v8+1),()))
 else kx (v4,v5,()))
def n1u(self_q18z:Ev.Val×Int×Unit→Option Y10)(n:Nat):Ev.Val×Int×Unit→Option Y10:=
 fun(a1,a2,_)=>
 (bif (a1.kind:Int)==4 then
 (bif (decide (((a1.l.length:Int):Int) >30)) || (decide ((a2:Int) >6))then some (2,())
 else
 a0a (fun rc14=>o0o self_q18z n rc14 (fun(v11,v12,_)=>
 (bif v11&&v12 then some (0,())
 else some (6,()))) (fun(v13,_)=>some (v13,()))) (n) (a2,(a1.n:Int)==0,seq a1.s (⟨#[]⟩:ByteArray),a1.l,(a1.l.length:Int),0,()))
 else
 (bif (a1.kind:Int)==3 then
 (bif decide (((a1.s.size:Int):Int) >4000)then some (2,())
 else
 (bif ((a1.n:Int)==0)&& (((a1.l.length:Int):Int)==0)then
 (s0c (a1.s,())).bind fun(y15,_)=>
 (bif y15 then some (0,())
 else some (6,()))
 else some (6,())))
 else
 (bif (a1.kind:Int)==0 then
 (bif (((a1.n:Int)==0)&& (seq a1.s (⟨#[]⟩:ByteArray)))&& (((a1.l.length:Int):Int)==0)then some (0,())
 else some (6,()))
 else
 (bif (a1.kind:Int)==1 then
 (bif ((((a1.n:Int)==0) || ((a1.n:Int)==1))&& (seq a1.s (⟨#[]⟩:ByteArray)))&& (((a1.l.length:Int):Int)==0)then some (0,())
 else some (6,()))
 else
 (bif (a1.kind:Int)==2 then
 (bif (seq a1.s (⟨#[]⟩:ByteArray))&& (((a1.l.length:Int):Int)==0)then some (0,())
 else some (6,()))
 else some (6,()))))))
def q18z:Nat→Ev.Val×Int×Unit→Option Y10
 | 0,_=>none
 | n+1,x=>n1u (q18z n) n x
def g0w{ρ:Type}(self_q22z:Ev.Term×Y9×Int×Unit→Option Y10)(n:Nat)(kr:Int×Unit→Option ρ):Int→Ev.Term→(Y9×Int×Y17×Unit)→((Y9×Int×Y17×Unit)→Option ρ)→Option ρ:=
 fun v15 x17 (v11,v12,o16,_) rec=>
 (self_q22z ((Ev.Term.mk x17.kind (Ev.Val.mk x17.v.kind x17.v.n x17.v.s x17.v.l) x17.name x17.a),v11,IntKind.wrap .i64 (v12+1),())).bind fun(y18,_)=>
 (bif (y18:Int) !=0 then kr (y18,())
 else rec (v11,v12,((Ev.Term.mk o16.1.kind (Ev.Val.mk o16.1.v.kind o16.1.v.n o16.1.v.s o16.1.v.l) o16.1.name o16.1.a),()),()))
def a1x{ρ:Type}(self_q22z:Ev.Term×Y9×Int×Unit→Option Y10)(n:Nat)(rec:Y9×Int×Y25×Int×Int×Y17×Unit→Option ρ)(kx:Y9×Y17×Unit→Option ρ)(kr:Int×Unit→Option ρ):Y9×Int×Y25×Int×Int×Y17×Unit→Option ρ:=
 fun(v11,v12,v13,v14,v15,o16,_)=>
 (bif decide ((v15:Int)<v14)then
 (ix v13 v15).bind fun x17=>g0w self_q22z n kr v15 x17 (v11,v12,o16,()) (fun(w0,w1,w5,_)=>rec (w0,w1,v13,v14,IntKind.wrap .i64 (v15+1),w5,()))
 else kx (v11,((Ev.Term.mk o16.1.kind (Ev.Val.mk o16.1.v.kind o16.1.v.n o16.1.v.s o16.1.v.l) o16.1.name o16.1.a),()),()))
theorem q1n{ρ:Type}(self_q22z:Ev.Term×Y9×Int×Unit→Option Y10)(n:Nat)(kx:Y9×Y17×Unit→Option ρ)(kr:Int×Unit→Option ρ)(l:List Ev.Term)(fuel:Nat)(v11:List Y2)(v12:Int)(o16:Ev.Term×Unit)(hl:l.length≤9223372036854775807)(hf:l.length<fuel):
  a0a (fun rc=>a1x self_q22z n rc kx kr) fuel (v11,v12,l,(l.length:Int),0,o16,())=a0c (g0w self_q22z n kr) (fun(v11,v12,o16,_)=>kx (v11,((Ev.Term.mk o16.1.kind (Ev.Val.mk o16.1.v.kind o16.1.v.n o16.1.v.s o16.1.v.l) o16.1.name o16.1.a),()),())) 0 l (v11,v12,o16,()):=
 a0d l (fun i (v11,v12,o16,_)=>(v11,v12,l,(l.length:Int),i,o16,())) _ _ _ (fun rec i s=>rfl) hl fuel (v11,v12,o16,()) hf
def p1u(self_q22z:Ev.Term×Y9×Int×Unit→Option Y10)(n:Nat):Ev.Term×Y9×Int×Unit→Option Y10:=
 fun(a1,a2,a3,_)=>
 (bif decide ((a3:Int) >6)then some (2,())
 else
 (q23z n ((Ev.Val.mk a1.v.kind a1.v.n a1.v.s a1.v.l),(Ev.Val.mk 0 0 (⟨#[]⟩:ByteArray) ([]:List Ev.Val)),())).bind fun(y4,_)=>
 (bif (a1.kind:Int)==1 then
 (bif ((!(seq a1.name (⟨#[]⟩:ByteArray))) || (((a1.a.length:Int):Int) !=0)) || ((a1.v.kind:Int)==4)then some (6,())
 else
 (q18z n ((Ev.Val.mk a1.v.kind a1.v.n a1.v.s a1.v.l),1,())).bind fun(y5,_)=>some (y5,()))
 else
 (bif (a1.kind:Int)==2 then
 (bif (!y4) || (((a1.a.length:Int):Int) !=0)then some (6,())
 else
 (q40z (a1.name,())).bind fun(y6,_)=>
 (bif !y6 then some (6,())
 else
 (bif ((a0g .str .i64 0 a2 a1.name):Int)==0 then some (5,())
 else some (0,()))))
 else
 (bif (a1.kind:Int)==3 then
 (bif (!y4) || (((a1.a.length:Int):Int) !=1)then some (6,())
 else
 (ix a1.a 0).bind fun x7=>
 (bif (x7.kind:Int) !=2 then some (6,())
 else
 (q41z (a1.name,())).bind fun(y8,_)=>
 (bif !y8 then some (6,())
 else
 (ix a1.a 0).bind fun x9=>
 (self_q22z ((Ev.Term.mk x9.kind (Ev.Val.mk x9.v.kind x9.v.n x9.v.s x9.v.l) x9.name x9.a),a2,IntKind.wrap .i64 (a3+1),())).bind fun(y10,_)=>some (y10,()))))
 else
 (bif (a1.kind:Int)==4 then
 (bif ((!y4) || (((a0g .str .i64 0 (a0e .str .i64 (a0e .str .i64 (a0e .str .i64 (a0e .str .i64 (a0e .str .i64 (a0e .str .i64 (a0e .str .i64 (a0e .str .i64 (a0e .str .i64 (a0e .str .i64 (a0e .str .i64 (a0e .str .i64 (a0e .str .i64 (a0e .str .i64 (a0e .str .i64 (a0e .str .i64 (a0e .str .i64 ([]:List Y2) (⟨#[43]⟩:ByteArray) 2) (⟨#[45]⟩:ByteArray) 2) (⟨#[42]⟩:ByteArray) 2) (⟨#[61]⟩:ByteArray) 2) (⟨#[60]⟩:ByteArray) 2) (⟨#[60,61]⟩:ByteArray) 2) (⟨#[97,110,100]⟩:ByteArray) 2) (⟨#[111,114]⟩:ByteArray) 2) (⟨#[105,110]⟩:ByteArray) 2) (⟨#[110,111,116]⟩:ByteArray) 1) (⟨#[110,117,108,108]⟩:ByteArray) 1) (⟨#[115,105,122,101]⟩:ByteArray) 1) (⟨#[104,101,97,100]⟩:ByteArray) 1) (⟨#[105,100]⟩:ByteArray) 1) (⟨#[116,121,112,101]⟩:ByteArray) 1) (⟨#[99,111,97,108,101,115,99,101]⟩:ByteArray) (-1)) (⟨#[108,105,115,116]⟩:ByteArray) (-1)) a1.name):Int)==0)) || ((decide (((a0g .str .i64 0 (a0e .str .i64 (a0e .str .i64 (a0e .str .i64 (a0e .str .i64 (a0e .str .i64 (a0e .str .i64 (a0e .str .i64 (a0e .str .i64 (a0e .str .i64 (a0e .str .i64 (a0e .str .i64 (a0e .str .i64 (a0e .str .i64 (a0e .str .i64 (a0e .str .i64 (a0e .str .i64 (a0e .str .i64 ([]:List Y2) (⟨#[43]⟩:ByteArray) 2) (⟨#[45]⟩:ByteArray) 2) (⟨#[42]⟩:ByteArray) 2) (⟨#[61]⟩:ByteArray) 2) (⟨#[60]⟩:ByteArray) 2) (⟨#[60,61]⟩:ByteArray) 2) (⟨#[97,110,100]⟩:ByteArray) 2) (⟨#[111,114]⟩:ByteArray) 2) (⟨#[105,110]⟩:ByteArray) 2) (⟨#[110,111,116]⟩:ByteArray) 1) (⟨#[110,117,108,108]⟩:ByteArray) 1) (⟨#[115,105,122,101]⟩:ByteArray) 1) (⟨#[104,101,97,100]⟩:ByteArray) 1) (⟨#[105,100]⟩:ByteArray) 1) (⟨#[116,121,112,101]⟩:ByteArray) 1) (⟨#[99,111,97,108,101,115,99,101]⟩:ByteArray) (-1)) (⟨#[108,105,115,116]⟩:ByteArray) (-1)) a1.name):Int) >0))&& (((a1.a.length:Int):Int) !=(a0g .str .i64 0 (a0e .str .i64 (a0e .str .i64 (a0e .str .i64 (a0e .str .i64 (a0e .str .i64 (a0e .str .i64 (a0e .str .i64 (a0e .str .i64 (a0e .str .i64 (a0e .str .i64 (a0e .str .i64 (a0e .str .i64 (a0e .str .i64 (a0e .str .i64 (a0e .str .i64 (a0e .str .i64 (a0e .str .i64 ([]:List Y2) (⟨#[43]⟩:ByteArray) 2) (⟨#[45]⟩:ByteArray) 2) (⟨#[42]⟩:ByteArray) 2) (⟨#[61]⟩:ByteArray) 2) (⟨#[60]⟩:ByteArray) 2) (⟨#[60,61]⟩:ByteArray) 2) (⟨#[97,110,100]⟩:ByteArray) 2) (⟨#[111,114]⟩:ByteArray) 2) (⟨#[105,110]⟩:ByteArray) 2) (⟨#[110,111,116]⟩:ByteArray) 1) (⟨#[110,117,108,108]⟩:ByteArray) 1) (⟨#[115,105,122,101]⟩:ByteArray) 1) (⟨#[104,101,97,100]⟩:ByteArray) 1) (⟨#[105,100]⟩:ByteArray) 1) (⟨#[116,121,112,101]⟩:ByteArray) 1) (⟨#[99,111,97,108,101,115,99,101]⟩:ByteArray) (-1)) (⟨#[108,105,115,116]⟩:ByteArray) (-1)) a1.name)))then some (6,())
 else
 (bif decide (((a1.a.length:Int):Int) >30)then some (2,())
 else
 a0a (fun rc27=>a1x self_q22z n rc27 (fun(v19,o20,_)=>
 (bif seq o20.1.name (⟨#[105,100]⟩:ByteArray)then
 (ix o20.1.a 0).bind fun x22=>
 (bif (x22.kind:Int) !=2 then some (3,())
 else
 (bif seq o20.1.name (⟨#[116,121,112,101]⟩:ByteArray)then
 (ix o20.1.a 0).bind fun x23=>
 (bif (x23.kind:Int) !=2 then some (3,())
 else
 (ix o20.1.a 0).bind fun x24=>
 (bif ((a0g .str .i64 0 v19 x24.name):Int) !=2 then some (3,())
 else some (0,())))
 else some (0,())))
 else
 (bif seq o20.1.name (⟨#[116,121,112,101]⟩:ByteArray)then
 (ix o20.1.a 0).bind fun x25=>
 (bif (x25.kind:Int) !=2 then some (3,())
 else
 (ix o20.1.a 0).bind fun x26=>
 (bif ((a0g .str .i64 0 v19 x26.name):Int) !=2 then some (3,())
 else some (0,())))
 else some (0,())))) (fun(v21,_)=>some (v21,()))) (n) (a2,a3,a1.a,(a1.a.length:Int),0,((Ev.Term.mk a1.kind (Ev.Val.mk a1.v.kind a1.v.n a1.v.s a1.v.l) a1.name a1.a),()),())))
 else some (6,()))))))
def q22z:Nat→Ev.Term×Y9×Int×Unit→Option Y10
 | 0,_=>none
 | n+1,x=>p1u (q22z n) n x
def j0w{ρ:Type}(n:Nat)(kr:Y9×Int×Unit→Option ρ):Int→Ev.Dot→Y37→(Y37→Option ρ)→Option ρ:=
 fun v4 x7 (o5,o6,_) rec=>
 (bif !(seq x7.name (⟨#[]⟩:ByteArray))then
 (q40z (x7.name,())).bind fun(y8,_)=>
 (bif !y8 then kr (([]:List Y2),6,())
 else
 (bif !(seq x7.label (⟨#[]⟩:ByteArray))then
 (q41z (x7.label,())).bind fun(y9,_)=>
 (bif !y9 then kr (([]:List Y2),6,())
 else rec (o5,a0e .str .i64 o6 x7.name 1,()))
 else rec (o5,a0e .str .i64 o6 x7.name 1,())))
 else
 (bif !(seq x7.label (⟨#[]⟩:ByteArray))then
 (q41z (x7.label,())).bind fun(y10,_)=>
 (bif !y10 then kr (([]:List Y2),6,())
 else rec (o5,a0e .str .i64 o6 x7.name 1,()))
 else rec (o5,a0e .str .i64 o6 x7.name 1,())))
def d1k{ρ:Type}(n:Nat)(rec:Y36×Int×Int×Y4×Y9×Unit→Option ρ)(kx:Y4×Y9×Unit→Option ρ)(kr:Y9×Int×Unit→Option ρ):Y36×Int×Int×Y4×Y9×Unit→Option ρ:=
 fun(v2,v3,v4,o5,o6,_)=>
 (bif decide ((v4:Int)<v3)then
 (ix v2 v4).bind fun x7=>j0w n kr v4 x7 (o5,o6,()) (fun(w3,w4,_)=>rec (v2,v3,IntKind.wrap .i64 (v4+1),w3,w4,()))
 else kx (o5,o6,()))
def k0f{ρ:Type}(n:Nat)(kr:Y9×Int×Unit→Option ρ):Int→Ev.Arrow→Y37→(Y37→Option ρ)→Option ρ:=
 fun v17 x20 (o18,o19,_) rec=>
 (bif !(seq x20.name (⟨#[]⟩:ByteArray))then
 (q40z (x20.name,())).bind fun(y21,_)=>
 (bif !y21 then kr (([]:List Y2),6,())
 else
 (bif !(seq x20.type (⟨#[]⟩:ByteArray))then
 (q41z (x20.type,())).bind fun(y22,_)=>
 (bif (!y22) || (x20.many&& (!(seq x20.name (⟨#[]⟩:ByteArray))))then kr (([]:List Y2),6,())
 else rec (o18,o19,()))
 else
 (bif x20.many&& (!(seq x20.name (⟨#[]⟩:ByteArray)))then kr (([]:List Y2),6,())
 else rec (o18,o19,()))))
 else
 (bif !(seq x20.type (⟨#[]⟩:ByteArray))then
 (q41z (x20.type,())).bind fun(y23,_)=>
 (bif (!y23) || (x20.many&& (!(seq x20.name (⟨#[]⟩:ByteArray))))then kr (([]:List Y2),6,())
 else rec (o18,o19,()))
 else
 (bif x20.many&& (!(seq x20.name (⟨#[]⟩:ByteArray)))then kr (([]:List Y2),6,())
 else rec (o18,o19,()))))
def z0u{ρ:Type}(n:Nat)(rec:Y26×Int×Int×Y4×Y9×Unit→Option ρ)(kx:Y4×Y9×Unit→Option ρ)(kr:Y9×Int×Unit→Option ρ):Y26×Int×Int×Y4×Y9×Unit→Option ρ:=
 fun(v15,v16,v17,o18,o19,_)=>
 (bif decide ((v17:Int)<v16)then
 (ix v15 v17).bind fun x20=>k0f n kr v17 x20 (o18,o19,()) (fun(w3,w4,_)=>rec (v15,v16,IntKind.wrap .i64 (v17+1),w3,w4,()))
 else kx (o18,o19,()))
def i0z{ρ:Type}(n:Nat)(kr:Y9×Int×Unit→Option ρ):Int→Ev.Arrow→Y37→(Y37→Option ρ)→Option ρ:=
 fun v30 x33 (o31,o32,_) rec=>
 (bif !(seq x33.name (⟨#[]⟩:ByteArray))then
 (bif ((a0g .str .i64 0 o32 x33.name):Int) !=0 then kr (([]:List Y2),7,())
 else
 (bif !(seq x33.name (⟨#[]⟩:ByteArray))then rec (o31,a0e .str .i64 o32 x33.name 2,())
 else rec (o31,o32,())))
 else
 (bif !(seq x33.name (⟨#[]⟩:ByteArray))then rec (o31,a0e .str .i64 o32 x33.name 2,())
 else rec (o31,o32,())))
def a1a{ρ:Type}(n:Nat)(rec:Y26×Int×Int×Y4×Y9×Unit→Option ρ)(kx:Y4×Y9×Unit→Option ρ)(kr:Y9×Int×Unit→Option ρ):Y26×Int×Int×Y4×Y9×Unit→Option ρ:=
 fun(v28,v29,v30,o31,o32,_)=>
 (bif decide ((v30:Int)<v29)then
 (ix v28 v30).bind fun x33=>i0z n kr v30 x33 (o31,o32,()) (fun(w3,w4,_)=>rec (v28,v29,IntKind.wrap .i64 (v30+1),w3,w4,()))
 else kx (o31,o32,()))
def k0q{ρ:Type}(n:Nat)(kr:Y9×Int×Unit→Option ρ):Int→Ev.Term→Y37→(Y37→Option ρ)→Option ρ:=
 fun v40 x43 (o41,o42,_) rec=>
 (q22z n ((Ev.Term.mk x43.kind (Ev.Val.mk x43.v.kind x43.v.n x43.v.s x43.v.l) x43.name x43.a),o42,1,())).bind fun(y44,_)=>
 (bif (y44:Int) !=0 then kr (([]:List Y2),y44,())
 else rec (o41,o42,()))
def b1g{ρ:Type}(n:Nat)(rec:Y25×Int×Int×Y4×Y9×Unit→Option ρ)(kx:Y4×Y9×Unit→Option ρ)(kr:Y9×Int×Unit→Option ρ):Y25×Int×Int×Y4×Y9×Unit→Option ρ:=
 fun(v38,v39,v40,o41,o42,_)=>
 (bif decide ((v40:Int)<v39)then
 (ix v38 v40).bind fun x43=>k0q n kr v40 x43 (o41,o42,()) (fun(w3,w4,_)=>rec (v38,v39,IntKind.wrap .i64 (v40+1),w3,w4,()))
 else kx (o41,o42,()))
def e0x{ρ:Type}(n:Nat)(kr:Y9×Int×Unit→Option ρ):Int→Ev.Item→Y39→(Y39→Option ρ)→Option ρ:=
 fun v63 x67 (v58,v59,v60,o64,o65,o66,_) rec=>
 (bif seq x67.name o65.1.name then kr (([]:List Y2),7,())
 else rec (v58,v59,v60,o64,((Ev.Item.mk o65.1.name o65.1.agg (Ev.Term.mk o65.1.t.kind (Ev.Val.mk o65.1.t.v.kind o65.1.t.v.n o65.1.t.v.s o65.1.t.v.l) o65.1.t.name o65.1.t.a)),()),o66,()))
def u0k{ρ:Type}(n:Nat)(rec:Y30×Int×Int×Y30×Int×Int×Y4×(Ev.Item×Unit)×Y9×Unit→Option ρ)(kx:Y30×Int×Int×Y4×(Ev.Item×Unit)×Y9×Unit→Option ρ)(kr:Y9×Int×Unit→Option ρ):Y30×Int×Int×Y30×Int×Int×Y4×(Ev.Item×Unit)×Y9×Unit→Option ρ:=
 fun(v58,v59,v60,v61,v62,v63,o64,o65,o66,_)=>
 (bif decide ((v63:Int)<v62)then
 (ix v61 v63).bind fun x67=>e0x n kr v63 x67 (v58,v59,v60,o64,o65,o66,()) (fun(w0,w1,w2,w6,w7,w8,_)=>rec (w0,w1,w2,v61,v62,IntKind.wrap .i64 (v63+1),w6,w7,w8,()))
 else kx (v58,v59,v60,o64,((Ev.Item.mk o65.1.name o65.1.agg (Ev.Term.mk o65.1.t.kind (Ev.Val.mk o65.1.t.v.kind o65.1.t.v.n o65.1.t.v.s o65.1.t.v.l) o65.1.t.name o65.1.t.a)),()),o66,()))
def l0t{ρ:Type}(n:Nat)(rec:Y30×Int×Int×Y4×Y9×Unit→Option ρ)(kx:Y9×Unit→Option ρ)(kr:Y9×Int×Unit→Option ρ):Y30×Int×Int×Y4×Y9×Unit→Option ρ:=
 fun(v49,v50,v51,o52,o53,_)=>
 (bif decide ((v51:Int)<v50)then
 (ix v49 v51).bind fun x54=>
 (q40z (x54.name,())).bind fun(y55,_)=>
 (bif !y55 then kr (([]:List Y2),6,())
 else
 (q7z n (([(⟨#[]⟩:ByteArray),(⟨#[99,111,117,110,116]⟩:ByteArray),(⟨#[115,117,109]⟩:ByteArray),(⟨#[109,105,110]⟩:ByteArray),(⟨#[109,97,120]⟩:ByteArray)]:List ByteArray),x54.agg,())).bind fun(y56,_)=>
 (bif !y56 then kr (([]:List Y2),6,())
 else
 (lsl o52.1.items 0 v51).bind fun l57=>
 a0a (fun rc77=>u0k n rc77 (fun(v68,v69,v70,o71,o72,o73,_)=>
 (q22z n ((Ev.Term.mk o72.1.t.kind (Ev.Val.mk o72.1.t.v.kind o72.1.t.v.n o72.1.t.v.s o72.1.t.v.l) o72.1.t.name o72.1.t.a),o73,1,())).bind fun(y76,_)=>
 (bif (y76:Int) !=0 then kr (([]:List Y2),y76,())
 else rec (v68,v69,IntKind.wrap .i64 (v70+1),o71,o73,()))) (fun(v74,v75,_)=>kr (v74,v75,()))) (n) (v49,v50,v51,l57,(l57.length:Int),0,o52,((Ev.Item.mk x54.name x54.agg (Ev.Term.mk x54.t.kind (Ev.Val.mk x54.t.v.kind x54.t.v.n x54.t.v.s x54.t.v.l) x54.t.name x54.t.a)),()),o53,())))
 else kx (o53,()))
theorem n1g{ρ:Type}(n:Nat)(kx:Y4×Y9×Unit→Option ρ)(kr:Y9×Int×Unit→Option ρ)(l:List Ev.Dot)(fuel:Nat)(o5:Ev.Query×Unit)(o6:List Y2)(hl:l.length≤9223372036854775807)(hf:l.length<fuel):
  a0a (fun rc=>d1k n rc kx kr) fuel (l,(l.length:Int),0,o5,o6,())=a0c (j0w n kr) (fun(o5,o6,_)=>kx (o5,o6,())) 0 l (o5,o6,()):=
 a0d l (fun i (o5,o6,_)=>(l,(l.length:Int),i,o5,o6,())) _ _ _ (fun rec i s=>rfl) hl fuel (o5,o6,()) hf
theorem k1m{ρ:Type}(n:Nat)(kx:Y4×Y9×Unit→Option ρ)(kr:Y9×Int×Unit→Option ρ)(l:List Ev.Arrow)(fuel:Nat)(o18:Ev.Query×Unit)(o19:List Y2)(hl:l.length≤9223372036854775807)(hf:l.length<fuel):
  a0a (fun rc=>z0u n rc kx kr) fuel (l,(l.length:Int),0,o18,o19,())=a0c (k0f n kr) (fun(o18,o19,_)=>kx (o18,o19,())) 0 l (o18,o19,()):=
 a0d l (fun i (o18,o19,_)=>(l,(l.length:Int),i,o18,o19,())) _ _ _ (fun rec i s=>rfl) hl fuel (o18,o19,()) hf
theorem j1e{ρ:Type}(n:Nat)(kx:Y4×Y9×Unit→Option ρ)(kr:Y9×Int×Unit→Option ρ)(l:List Ev.Arrow)(fuel:Nat)(o31:Ev.Query×Unit)(o32:List Y2)(hl:l.length≤9223372036854775807)(hf:l.length<fuel):
  a0a (fun rc=>a1a n rc kx kr) fuel (l,(l.length:Int),0,o31,o32,())=a0c (i0z n kr) (fun(o31,o32,_)=>kx (o31,o32,())) 0 l (o31,o32,()):=
 a0d l (fun i (o31,o32,_)=>(l,(l.length:Int),i,o31,o32,())) _ _ _ (fun rec i s=>rfl) hl fuel (o31,o32,()) hf
theorem r1j{ρ:Type}(n:Nat)(kx:Y4×Y9×Unit→Option ρ)(kr:Y9×Int×Unit→Option ρ)(l:List Ev.Term)(fuel:Nat)(o41:Ev.Query×Unit)(o42:List Y2)(hl:l.length≤9223372036854775807)(hf:l.length<fuel):
  a0a (fun rc=>b1g n rc kx kr) fuel (l,(l.length:Int),0,o41,o42,())=a0c (k0q n kr) (fun(o41,o42,_)=>kx (o41,o42,())) 0 l (o41,o42,()):=
 a0d l (fun i (o41,o42,_)=>(l,(l.length:Int),i,o41,o42,())) _ _ _ (fun rec i s=>rfl) hl fuel (o41,o42,()) hf
theorem i1a{ρ:Type}(n:Nat)(kx:Y30×Int×Int×Y4×(Ev.Item×Unit)×Y9×Unit→Option ρ)(kr:Y9×Int×Unit→Option ρ)(l:List Ev.Item)(fuel:Nat)(v58:List Ev.Item)(v59:Int)(v60:Int)(o64:Ev.Query×Unit)(o65:Ev.Item×Unit)(o66:List Y2)(hl:l.length≤9223372036854775807)(hf:l.length<fuel):
  a0a (fun rc=>u0k n rc kx kr) fuel (v58,v59,v60,l,(l.length:Int),0,o64,o65,o66,())=a0c (e0x n kr) (fun(v58,v59,v60,o64,o65,o66,_)=>kx (v58,v59,v60,o64,((Ev.Item.mk o65.1.name o65.1.agg (Ev.Term.mk o65.1.t.kind (Ev.Val.mk o65.1.t.v.kind o65.1.t.v.n o65.1.t.v.s o65.1.t.v.l) o65.1.t.name o65.1.t.a)),()),o66,())) 0 l (v58,v59,v60,o64,o65,o66,()):=
 a0d l (fun i (v58,v59,v60,o64,o65,o66,_)=>(v58,v59,v60,l,(l.length:Int),i,o64,o65,o66,())) _ _ _ (fun rec i s=>rfl) hl fuel (v58,v59,v60,o64,o65,o66,()) hf
def q17z(n:Nat):Ev.Query×Unit→Option (Y9×Int×Unit):=
 fun(a1,_)=>
 (bif ((((decide (((a1.dots.length:Int):Int)<1)) || (decide (((a1.dots.length:Int):Int) >5))) || (decide (((a1.items.length:Int):Int)<1))) || (decide (((a1.items.length:Int):Int) >5))) || (decide (((a1.wher.length:Int):Int) >1))then some (([]:List Y2),2,())
 else
 (bif ((a1.dots.length:Int):Int) !=(IntKind.wrap .i64 ((a1.arrows.length:Int)+1))then some (([]:List Y2),6,())
 else
 a0a (fun rc85=>d1k n rc85 (fun(o11,o12,_)=>
 a0a (fun rc84=>z0u n rc84 (fun(o24,o25,_)=>
 a0a (fun rc83=>a1a n rc83 (fun(o34,o35,_)=>
 a0a (fun rc82=>b1g n rc82 (fun(o45,o46,_)=>
 a0a (fun rc81=>l0t n rc81 (fun(o78,_)=>some (o78,0,())) (fun(v79,v80,_)=>some (v79,v80,()))) (n) (o45.1.items,(o45.1.items.length:Int),0,o45,o46,())) (fun(v47,v48,_)=>some (v47,v48,()))) (n) (o34.1.wher,(o34.1.wher.length:Int),0,o34,o35,())) (fun(v36,v37,_)=>some (v36,v37,()))) (n) (o24.1.arrows,(o24.1.arrows.length:Int),0,o24,t0u .str .i64 o25 (⟨#[]⟩:ByteArray),())) (fun(v26,v27,_)=>some (v26,v27,()))) (n) (o11.1.arrows,(o11.1.arrows.length:Int),0,o11,o12,())) (fun(v13,v14,_)=>some (v13,v14,()))) (n) (a1.dots,(a1.dots.length:Int),0,(a1,()),([]:List Y2),())))
def k1y{ρ:Type}(n:Nat)(rec:ByteArray×Y27×Int×Int×Unit→Option ρ)(kx:Unit→Option ρ)(kr:Int×Unit→Option ρ):ByteArray×Y27×Int×Int×Unit→Option ρ:=
 fun(v2,v3,v4,v5,_)=>
 (bif decide ((v5:Int)<v4)then
 (ix v3 v5).bind fun x6=>
 (q41z (x6,())).bind fun(y7,_)=>
 (bif (!y7) || (c0w x6 v2 || seq x6 v2)then kr (6,())
 else rec (x6,v3,v4,IntKind.wrap .i64 (v5+1),()))
 else kx (()))
def q12z(n:Nat):Y27×Unit→Option Y10:=
 fun(a1,_)=>
 (bif decide (((a1.length:Int):Int) >4)then some (2,())
 else
 a0a (fun rc9=>k1y n rc9 (fun(_)=>some (0,())) (fun(v8,_)=>some (v8,()))) (n) ((⟨#[]⟩:ByteArray),a1,(a1.length:Int),0,()))
def m1x{ρ:Type}(n:Nat)(kr:Int×Unit→Option ρ):Int→Ev.Prp→(ByteArray×Unit)→((ByteArray×Unit)→Option ρ)→Option ρ:=
 fun v5 x6 (v2,_) rec=>
 (q41z (x6.name,())).bind fun(y7,_)=>
 (bif ((!y7) || (c0w x6.name v2 || seq x6.name v2)) || ((x6.val.kind:Int)==0)then kr (6,())
 else
 (q18z n ((Ev.Val.mk x6.val.kind x6.val.n x6.val.s x6.val.l),1,())).bind fun(y8,_)=>
 (bif (y8:Int) !=0 then kr (y8,())
 else rec (x6.name,())))
def m1s{ρ:Type}(n:Nat)(rec:ByteArray×Y29×Int×Int×Unit→Option ρ)(kx:Unit→Option ρ)(kr:Int×Unit→Option ρ):ByteArray×Y29×Int×Int×Unit→Option ρ:=
 fun(v2,v3,v4,v5,_)=>
 (bif decide ((v5:Int)<v4)then
 (ix v3 v5).bind fun x6=>m1x n kr v5 x6 (v2,()) (fun(w0,_)=>rec (w0,v3,v4,IntKind.wrap .i64 (v5+1),()))
 else kx (()))
def q16z(n:Nat):Y29×Unit→Option Y10:=
 fun(a1,_)=>
 (bif decide (((a1.length:Int):Int) >6)then some (2,())
 else
 a0a (fun rc10=>m1s n rc10 (fun(_)=>some (0,())) (fun(v9,_)=>some (v9,()))) (n) ((⟨#[]⟩:ByteArray),a1,(a1.length:Int),0,()))
def k1u{ρ:Type}(n:Nat)(rec:Int×Int×Int×Y7×Unit→Option ρ)(kx:Unit→Option ρ)(kr:Ev.Node×Unit→Option ρ):Int×Int×Int×Y7×Unit→Option ρ:=
 fun(v3,v4,v5,o6,_)=>
 (bif decide ((v5:Int)<v4)then
 (ix o6.1.nodes v5).bind fun x7=>
 (bif (x7.id:Int)==v3 then
 (ix o6.1.nodes v5).bind fun x8=>kr ((Ev.Node.mk x8.id x8.labels x8.props),())
 else rec (v3,v4,IntKind.wrap .i64 (v5+1),((Ev.Graph.mk o6.1.nodes o6.1.edges o6.1.next),()),()))
 else kx (()))
def q43z(n:Nat):Ev.Graph×Int×Unit→Option ((Option Ev.Node)×Unit):=
 fun(a1,a2,_)=>
 a0a (fun rc10=>k1u n rc10 (fun(_)=>some (none,())) (fun(v9,_)=>some (some (Ev.Node.mk v9.id v9.labels v9.props),()))) (n) (a2,(a1.nodes.length:Int),0,((Ev.Graph.mk a1.nodes a1.edges a1.next),()),())
def l1y{ρ:Type}(n:Nat)(kr:Int×Unit→Option ρ):Int→Ev.Node→Y34→(Y34→Option ρ)→Option ρ:=
 fun v6 x8 (v2,v3,o7,_) rec=>
 (bif decide ((x8.id:Int)≤v3)then kr (6,())
 else
 (q12z n (x8.labels,())).bind fun(y9,_)=>
 (bif (y9:Int) !=0 then kr (y9,())
 else
 (q16z n (x8.props,())).bind fun(y10,_)=>
 (bif (y10:Int) !=0 then kr (y10,())
 else rec (x8.id,x8.id,((Ev.Graph.mk o7.1.nodes o7.1.edges o7.1.next),()),()))))
def n1i{ρ:Type}(n:Nat)(rec:Int×Int×Y11×Int×Int×Y7×Unit→Option ρ)(kx:Int×Y7×Unit→Option ρ)(kr:Int×Unit→Option ρ):Int×Int×Y11×Int×Int×Y7×Unit→Option ρ:=
 fun(v2,v3,v4,v5,v6,o7,_)=>
 (bif decide ((v6:Int)<v5)then
 (ix v4 v6).bind fun x8=>l1y n kr v6 x8 (v2,v3,o7,()) (fun(w0,w1,w5,_)=>rec (w0,w1,v4,v5,IntKind.wrap .i64 (v6+1),w5,()))
 else kx (v2,((Ev.Graph.mk o7.1.nodes o7.1.edges o7.1.next),()),()))
def j1o{ρ:Type}(n:Nat)(kr:Int×Unit→Option ρ):Int→Ev.Edg→Y34→(Y34→Option ρ)→Option ρ:=
 fun v18 x20 (v14,v15,o19,_) rec=>
 (bif decide ((x20.id:Int)≤v15)then kr (6,())
 else
 (q43z n ((Ev.Graph.mk o19.1.nodes o19.1.edges o19.1.next),x20.id,())).bind fun(y21,_)=>
 optC y21 (
 (q41z (x20.type,())).bind fun(y23,_)=>
 (bif !y23 then kr (6,())
 else
 (q43z n ((Ev.Graph.mk o19.1.nodes o19.1.edges o19.1.next),x20.src,())).bind fun(y24,_)=>
 optC y24 (kr (5,())) (fun z25=>
 (q43z n ((Ev.Graph.mk o19.1.nodes o19.1.edges o19.1.next),x20.dst,())).bind fun(y26,_)=>
 optC y26 (kr (5,())) (fun z27=>
 (q16z n (x20.props,())).bind fun(y28,_)=>
 (bif (y28:Int) !=0 then kr (y28,())
 else rec ((if x20.id>v14 then x20.id else v14),x20.id,((Ev.Graph.mk o19.1.nodes o19.1.edges o19.1.next),()),())))))) (fun z22=>kr (6,())))
def l1o{ρ:Type}(n:Nat)(rec:Int×Int×Y31×Int×Int×Y7×Unit→Option ρ)(kx:Int×Y7×Unit→Option ρ)(kr:Int×Unit→Option ρ):Int×Int×Y31×Int×Int×Y7×Unit→Option ρ:=
 fun(v14,v15,v16,v17,v18,o19,_)=>
 (bif decide ((v18:Int)<v17)then
 (ix v16 v18).bind fun x20=>j1o n kr v18 x20 (v14,v15,o19,()) (fun(w0,w1,w5,_)=>rec (w0,w1,v16,v17,IntKind.wrap .i64 (v18+1),w5,()))
 else kx (v14,((Ev.Graph.mk o19.1.nodes o19.1.edges o19.1.next),()),()))
def q15z(n:Nat):Ev.Graph×Unit→Option Y10:=
 fun(a1,_)=>
 (bif (decide (((a1.nodes.length:Int):Int) >40)) || (decide (((a1.edges.length:Int):Int) >60))then some (2,())
 else
 a0a (fun rc33=>n1i n rc33 (fun(v11,o12,_)=>
 a0a (fun rc32=>l1o n rc32 (fun(v29,o30,_)=>
 (bif (decide ((o30.1.next:Int)≤v29)) || (decide ((o30.1.next:Int) >1099511627776))then some (9,())
 else some (0,()))) (fun(v31,_)=>some (v31,()))) (n) (v11,0,o12.1.edges,(o12.1.edges.length:Int),0,((Ev.Graph.mk o12.1.nodes o12.1.edges o12.1.next),()),())) (fun(v13,_)=>some (v13,()))) (n) (0,0,a1.nodes,(a1.nodes.length:Int),0,((Ev.Graph.mk a1.nodes a1.edges a1.next),()),()))
def q21z(n:Nat):Ev.Query×Ev.Graph×Unit→Option Y10:=
 fun(a1,a2,_)=>
 (q17z n (a1,())).bind fun(y3,y4,_)=>
 (bif (y4:Int) !=0 then some (y4,())
 else
 (q15z n (a2,())).bind fun(y5,_)=>some (y5,()))
def q68z:Int×Unit→Option Y5:=
 fun(a1,_)=>some ((Ev.Val.mk 2 a1 (⟨#[]⟩:ByteArray) ([]:List Ev.Val)),())
def q58z:ByteArray×Y25×Unit→Option Y17:=
 fun(a1,a2,_)=>some ((Ev.Term.mk 4 (Ev.Val.mk 0 0 (⟨#[]⟩:ByteArray) ([]:List Ev.Val)) a1 a2),())
def q48z:Unit→Option Y7:=
 fun(_)=>some ((Ev.Graph.mk ([(Ev.Node.mk 1 ([]:List ByteArray) ([]:List Ev.Prp)),(Ev.Node.mk 2 ([]:List ByteArray) ([]:List Ev.Prp)),(Ev.Node.mk 3 ([(⟨#[65]⟩:ByteArray)]:List ByteArray) ([]:List Ev.Prp))]:List Ev.Node) ([(Ev.Edg.mk 4 1 2 (⟨#[75]⟩:ByteArray) ([]:List Ev.Prp)),(Ev.Edg.mk 5 2 3 (⟨#[75]⟩:ByteArray) ([]:List Ev.Prp))]:List Ev.Edg) 6),())
def o0t{ρ:Type}(n:Nat)(kr:Bool×Unit→Option ρ):Int→Int→(Y0×Unit)→((Y0×Unit)→Option ρ)→Option ρ:=
 fun v6 x9 (v4,_) rec=>
 (ix v4 v6).bind fun x10=>
 (bif (x9:Int) !=x10 then kr (false,())
 else rec (v4,()))
def c1j{ρ:Type}(n:Nat)(rec:Y0×Y0×Int×Int×Unit→Option ρ)(kx:Unit→Option ρ)(kr:Bool×Unit→Option ρ):Y0×Y0×Int×Int×Unit→Option ρ:=
 fun(v3,v4,v5,v6,_)=>
 (bif decide ((v6:Int)<v5)then
 (ix v3 v6).bind fun x9=>
 (ix v4 v6).bind fun x10=>
 (bif (x9:Int) !=x10 then kr (false,())
 else rec (v3,v4,v5,IntKind.wrap .i64 (v6+1),()))
 else kx (()))
theorem n1o{ρ:Type}(n:Nat)(kx:Unit→Option ρ)(kr:Bool×Unit→Option ρ)(l:List Int)(fuel:Nat)(v4:List Int)(hl:l.length≤9223372036854775807)(hf:l.length<fuel):
  a0a (fun rc=>c1j n rc kx kr) fuel (l,v4,(l.length:Int),0,())=a0c (o0t n kr) (fun(v4,_)=>kx (())) 0 l (v4,()):=
 a0d l (fun i (v4,_)=>(l,v4,(l.length:Int),i,())) _ _ _ (fun rec i s=>rfl) hl fuel (v4,()) hf
def q32z(n:Nat):Y0×Y0×Unit→Option Y13:=
 fun(a1,a2,_)=>
 (bif ((a1.length:Int):Int) !=(a2.length:Int)then some (false,())
 else
 a0a (fun rc12=>c1j n rc12 (fun(_)=>some (true,())) (fun(v11,_)=>some (v11,()))) (n) (a1,a2,(a1.length:Int),0,()))
def t0b{ρ:Type}(n:Nat)(kr:Bool×Unit→Option ρ):Int→(Y0)→(Y8×Unit)→((Y8×Unit)→Option ρ)→Option ρ:=
 fun v6 x7 (v3,_) rec=>
 (ix v3 v6).bind fun x8=>
 (q32z n (x7,x8,())).bind fun(y9,_)=>
 (bif !y9 then kr (false,())
 else rec (v3,()))
def m1j{ρ:Type}(n:Nat)(rec:Y8×Y8×Int×Int×Unit→Option ρ)(kx:Unit→Option ρ)(kr:Bool×Unit→Option ρ):Y8×Y8×Int×Int×Unit→Option ρ:=
 fun(v3,v4,v5,v6,_)=>
 (bif decide ((v6:Int)<v5)then
 (ix v4 v6).bind fun x7=>
 (ix v3 v6).bind fun x8=>
 (q32z n (x7,x8,())).bind fun(y9,_)=>
 (bif !y9 then kr (false,())
 else rec (v3,v4,v5,IntKind.wrap .i64 (v6+1),()))
 else kx (()))
theorem v1m{ρ:Type}(n:Nat)(kx:Unit→Option ρ)(kr:Bool×Unit→Option ρ)(l:List Y0)(fuel:Nat)(v3:List Y0)(hl:l.length≤9223372036854775807)(hf:l.length<fuel):
  a0a (fun rc=>m1j n rc kx kr) fuel (v3,l,(l.length:Int),0,())=a0c (t0b n kr) (fun(v3,_)=>kx (())) 0 l (v3,()):=
 a0d l (fun i (v3,_)=>(v3,l,(l.length:Int),i,())) _ _ _ (fun rec i s=>rfl) hl fuel (v3,()) hf
def q3z(n:Nat):Y8×Y8×Unit→Option Y13:=
 fun(a1,a2,_)=>
 (bif ((a1.length:Int):Int) !=(a2.length:Int)then some (false,())
 else
 a0a (fun rc11=>m1j n rc11 (fun(_)=>some (true,())) (fun(v10,_)=>some (v10,()))) (n) (a2,a1,(a1.length:Int),0,()))
def q33z(n:Nat):Unit→Option Y13:=
 fun(_)=>
 (q68z (2,())).bind fun(y1,_)=>
 (q58z ((⟨#[60]⟩:ByteArray),([(Ev.Term.mk 2 (Ev.Val.mk 0 0 (⟨#[]⟩:ByteArray) ([]:List Ev.Val)) (⟨#[97]⟩:ByteArray) ([]:List Ev.Term)),(Ev.Term.mk 1 (Ev.Val.mk y1.kind y1.n y1.s y1.l) (⟨#[]⟩:ByteArray) ([]:List Ev.Term))]:List Ev.Term),())).bind fun(y2,_)=>
 (q48z (())).bind fun(y3,_)=>
 (d0g n ((Ev.Query.mk ([(Ev.Dot.mk (⟨#[97]⟩:ByteArray) (⟨#[]⟩:ByteArray)),(Ev.Dot.mk (⟨#[]⟩:ByteArray) (⟨#[]⟩:ByteArray))]:List Ev.Dot) ([(Ev.Arrow.mk (⟨#[]⟩:ByteArray) (⟨#[]⟩:ByteArray) false true)]:List Ev.Arrow) ([(Ev.Term.mk y2.kind (Ev.Val.mk y2.v.kind y2.v.n y2.v.s y2.v.l) y2.name y2.a)]:List Ev.Term) ([(Ev.Item.mk (⟨#[110]⟩:ByteArray) (⟨#[]⟩:ByteArray) (Ev.Term.mk 2 (Ev.Val.mk 0 0 (⟨#[]⟩:ByteArray) ([]:List Ev.Val)) (⟨#[97]⟩:ByteArray) ([]:List Ev.Term)))]:List Ev.Item) false),(Ev.Graph.mk y3.nodes y3.edges y3.next),())).bind fun(y4,y5,_)=>
 (bif (y5:Int)==0 then
 (q3z n (y4,([([1,2,0]:List Int),([1,3,0]:List Int)]:List Y0),())).bind fun(y6,_)=>some (y6,())
 else some (false,()))
def k0n{ρ:Type}(n:Nat)(kr:Unit→Option ρ):Int→Ev.Edg→(ByteArray×Y7×Y3×Unit)→((ByteArray×Y7×Y3×Unit)→Option ρ)→Option ρ:=
 fun v6 x9 (v3,o7,o8,_) rec=>
 (bif (seq v3 (⟨#[]⟩:ByteArray)) || (seq x9.type v3)then rec (v3,((Ev.Graph.mk o7.1.nodes o7.1.edges o7.1.next),()),a0e .pair .bool o8 (Ev.Pair.mk x9.src x9.dst) true,())
 else rec (v3,((Ev.Graph.mk o7.1.nodes o7.1.edges o7.1.next),()),o8,()))
def c1y{ρ:Type}(n:Nat)(rec:ByteArray×Y31×Int×Int×Y7×Y3×Unit→Option ρ)(kx:Y7×Y3×Unit→Option ρ)(kr:Unit→Option ρ):ByteArray×Y31×Int×Int×Y7×Y3×Unit→Option ρ:=
 fun(v3,v4,v5,v6,o7,o8,_)=>
 (bif decide ((v6:Int)<v5)then
 (ix v4 v6).bind fun x9=>k0n n kr v6 x9 (v3,o7,o8,()) (fun(w0,w4,w5,_)=>rec (w0,v4,v5,IntKind.wrap .i64 (v6+1),w4,w5,()))
 else kx (((Ev.Graph.mk o7.1.nodes o7.1.edges o7.1.next),()),o8,()))
def j0o{ρ:Type}(n:Nat)(kr:Unit→Option ρ):Int→Ev.Node→Y35→(Y35→Option ρ)→Option ρ:=
 fun v36 x41 (v28,v29,v30,v31,v32,v33,o37,o38,o39,o40,_) rec=>
 (bif (a0g .pair .bool false o40 (Ev.Pair.mk o38.1.id x41.id))then rec (v28,v29,v30,v31,v32,v33,((Ev.Graph.mk o37.1.nodes o37.1.edges o37.1.next),()),((Ev.Node.mk o38.1.id o38.1.labels o38.1.props),()),((Ev.Node.mk o39.1.id o39.1.labels o39.1.props),()),a0e .pair .bool o40 (Ev.Pair.mk o39.1.id x41.id) true,())
 else rec (v28,v29,v30,v31,v32,v33,((Ev.Graph.mk o37.1.nodes o37.1.edges o37.1.next),()),((Ev.Node.mk o38.1.id o38.1.labels o38.1.props),()),((Ev.Node.mk o39.1.id o39.1.labels o39.1.props),()),o40,()))
def d1m{ρ:Type}(n:Nat)(rec:Y11×Int×Int×Y11×Int×Int×Y11×Int×Int×Y7×Y18×Y18×Y3×Unit→Option ρ)(kx:Y11×Int×Int×Y11×Int×Int×Y7×Y18×Y3×Unit→Option ρ)(kr:Unit→Option ρ):Y11×Int×Int×Y11×Int×Int×Y11×Int×Int×Y7×Y18×Y18×Y3×Unit→Option ρ:=
 fun(v28,v29,v30,v31,v32,v33,v34,v35,v36,o37,o38,o39,o40,_)=>
 (bif decide ((v36:Int)<v35)then
 (ix v34 v36).bind fun x41=>j0o n kr v36 x41 (v28,v29,v30,v31,v32,v33,o37,o38,o39,o40,()) (fun(w0,w1,w2,w3,w4,w5,w9,w10,w11,w12,_)=>rec (w0,w1,w2,w3,w4,w5,v34,v35,IntKind.wrap .i64 (v36+1),w9,w10,w11,w12,()))
 else kx (v28,v29,v30,v31,v32,v33,((Ev.Graph.mk o37.1.nodes o37.1.edges o37.1.next),()),((Ev.Node.mk o38.1.id o38.1.labels o38.1.props),()),o40,()))
def l0g{ρ:Type}(n:Nat)(rec:Y11×Int×Int×Y11×Int×Int×Y7×Y18×Y3×Unit→Option ρ)(kx:Y11×Int×Int×Y7×Y3×Unit→Option ρ)(kr:Unit→Option ρ):Y11×Int×Int×Y11×Int×Int×Y7×Y18×Y3×Unit→Option ρ:=
 fun(v18,v19,v20,v21,v22,v23,o24,o25,o26,_)=>
 (bif decide ((v23:Int)<v22)then
 (ix v21 v23).bind fun x27=>
 (bif !(a0g .pair .bool false o26 (Ev.Pair.mk x27.id o25.1.id))then rec (v18,v19,v20,v21,v22,IntKind.wrap .i64 (v23+1),((Ev.Graph.mk o24.1.nodes o24.1.edges o24.1.next),()),((Ev.Node.mk o25.1.id o25.1.labels o25.1.props),()),o26,())
 else
 a0a (fun rc51=>d1m n rc51 (fun(v42,v43,v44,v45,v46,v47,o48,o49,o50,_)=>rec (v42,v43,v44,v45,v46,IntKind.wrap .i64 (v47+1),((Ev.Graph.mk o48.1.nodes o48.1.edges o48.1.next),()),((Ev.Node.mk o49.1.id o49.1.labels o49.1.props),()),o50,())) (fun(_)=>none)) (n) (v18,v19,v20,v21,v22,v23,o24.1.nodes,(o24.1.nodes.length:Int),0,((Ev.Graph.mk o24.1.nodes o24.1.edges o24.1.next),()),((Ev.Node.mk o25.1.id o25.1.labels o25.1.props),()),((Ev.Node.mk x27.id x27.labels x27.props),()),o26,()))
 else kx (v18,v19,v20,((Ev.Graph.mk o24.1.nodes o24.1.edges o24.1.next),()),o26,()))
def i0u{ρ:Type}(n:Nat)(rec:Y11×Int×Int×Y7×Y3×Unit→Option ρ)(kx:Y3×Unit→Option ρ)(kr:Unit→Option ρ):Y11×Int×Int×Y7×Y3×Unit→Option ρ:=
 fun(v12,v13,v14,o15,o16,_)=>
 (bif decide ((v14:Int)<v13)then
 (ix v12 v14).bind fun x17=>
 a0a (fun rc57=>l0g n rc57 (fun(v52,v53,v54,o55,o56,_)=>rec (v52,v53,IntKind.wrap .i64 (v54+1),((Ev.Graph.mk o55.1.nodes o55.1.edges o55.1.next),()),o56,())) (fun(_)=>none)) (n) (v12,v13,v14,o15.1.nodes,(o15.1.nodes.length:Int),0,((Ev.Graph.mk o15.1.nodes o15.1.edges o15.1.next),()),((Ev.Node.mk x17.id x17.labels x17.props),()),o16,())
 else kx (o16,()))
theorem p1k{ρ:Type}(n:Nat)(kx:Y7×Y3×Unit→Option ρ)(kr:Unit→Option ρ)(l:List Ev.Edg)(fuel:Nat)(v3:ByteArray)(o7:Ev.Graph×Unit)(o8:List Y33)(hl:l.length≤9223372036854775807)(hf:l.length<fuel):
  a0a (fun rc=>c1y n rc kx kr) fuel (v3,l,(l.length:Int),0,o7,o8,())=a0c (k0n n kr) (fun(v3,o7,o8,_)=>kx (((Ev.Graph.mk o7.1.nodes o7.1.edges o7.1.next),()),o8,())) 0 l (v3,o7,o8,()):=
 a0d l (fun i (v3,o7,o8,_)=>(v3,l,(l.length:Int),i,o7,o8,())) _ _ _ (fun rec i s=>rfl) hl fuel (v3,o7,o8,()) hf
theorem r1b{ρ:Type}(n:Nat)(kx:Y11×Int×Int×Y11×Int×Int×Y7×Y18×Y3×Unit→Option ρ)(kr:Unit→Option ρ)(l:List Ev.Node)(fuel:Nat)(v28:List Ev.Node)(v29:Int)(v30:Int)(v31:List Ev.Node)(v32:Int)(v33:Int)(o37:Ev.Graph×Unit)(o38:Ev.Node×Unit)(o39:Ev.Node×Unit)(o40:List Y33)(hl:l.length≤9223372036854775807)(hf:l.length<fuel):
  a0a (fun rc=>d1m n rc kx kr) fuel (v28,v29,v30,v31,v32,v33,l,(l.length:Int),0,o37,o38,o39,o40,())=a0c (j0o n kr) (fun(v28,v29,v30,v31,v32,v33,o37,o38,o39,o40,_)=>kx (v28,v29,v30,v31,v32,v33,((Ev.Graph.mk o37.1.nodes o37.1.edges o37.1.next),()),((Ev.Node.mk o38.1.id o38.1.labels o38.1.props),()),o40,())) 0 l (v28,v29,v30,v31,v32,v33,o37,o38,o39,o40,()):=
 a0d l (fun i (v28,v29,v30,v31,v32,v33,o37,o38,o39,o40,_)=>(v28,v29,v30,v31,v32,v33,l,(l.length:Int),i,o37,o38,o39,o40,())) _ _ _ (fun rec i s=>rfl) hl fuel (v28,v29,v30,v31,v32,v33,o37,o38,o39,o40,()) hf
def q35z(n:Nat):Ev.Graph×ByteArray×Unit→Option (Y3×Unit):=
 fun(a1,a2,_)=>
 a0a (fun rc60=>c1y n rc60 (fun(o10,o11,_)=>
 a0a (fun rc59=>i0u n rc59 (fun(o58,_)=>some (o58,())) (fun(_)=>none)) (n) (o10.1.nodes,(o10.1.nodes.length:Int),0,((Ev.Graph.mk o10.1.nodes o10.1.edges o10.1.next),()),o11,())) (fun(_)=>none)) (n) (a2,a1.edges,(a1.edges.length:Int),0,((Ev.Graph.mk a1.nodes a1.edges a1.next),()),([]:List Y33),())
def q14z:Int×Unit→Option (Y0×Unit):=
 fun(a1,_)=>
 (bif decide ((a1:Int)<0)then none
 else
 (bif decide ((IntKind.wrap .i64 (a1 - 0):Int) >0)then
 ck (decide ((0:Int)=0∧(0:Int)=0)) (
 ck (decide (0< (IntKind.wrap .i64 (a1 - 0)))&&room (IntKind.wrap .i64 (a1 - 0):Int).toNat 8) (
 (cut? (List.replicate (IntKind.wrap .i64 (a1 - 0):Int).toNat 0) 0).bind fun r2=>some (r2,())))
 else some (([]:List Int),())))
def y0i{ρ:Type}(n:Nat)(kr:Unit→Option ρ):Int→(Y0)→(Y8×Int×Unit)→((Y8×Int×Unit)→Option ρ)→Option ρ:=
 fun v6 x7 (v2,v3,_) rec=>
 (bif decide ((IntKind.wrap .i64 (v3+(x7.length:Int)):Int)<0)then none
 else rec (v2,IntKind.wrap .i64 (v3+(x7.length:Int)),()))
def d1j{ρ:Type}(n:Nat)(rec:Y8×Int×Y8×Int×Int×Unit→Option ρ)(kx:Y8×Int×Unit→Option ρ)(kr:Unit→Option ρ):Y8×Int×Y8×Int×Int×Unit→Option ρ:=
 fun(v2,v3,v4,v5,v6,_)=>
 (bif decide ((v6:Int)<v5)then
 (ix v4 v6).bind fun x7=>
 (bif decide ((IntKind.wrap .i64 (v3+(x7.length:Int)):Int)<0)then none
 else rec (v2,IntKind.wrap .i64 (v3+(x7.length:Int)),v4,v5,IntKind.wrap .i64 (v6+1),()))
 else kx (v2,v3,()))
def y0m{ρ:Type}(n:Nat)(kr:Unit→Option ρ):Int→(Y0)→(Y0×Unit)→((Y0×Unit)→Option ρ)→Option ρ:=
 fun v13 x15 (o14,_) rec=>
 ck (room (o14++x15).length 8) (rec (o14++x15,()))
def d1g{ρ:Type}(n:Nat)(rec:Y8×Int×Int×Y0×Unit→Option ρ)(kx:Y0×Unit→Option ρ)(kr:Unit→Option ρ):Y8×Int×Int×Y0×Unit→Option ρ:=
 fun(v11,v12,v13,o14,_)=>
 (bif decide ((v13:Int)<v12)then
 (ix v11 v13).bind fun x15=>
 ck (room (o14++x15).length 8) (rec (v11,v12,IntKind.wrap .i64 (v13+1),o14++x15,()))
 else kx (o14,()))
theorem q1j{ρ:Type}(n:Nat)(kx:Y8×Int×Unit→Option ρ)(kr:Unit→Option ρ)(l:List Y0)(fuel:Nat)(v2:List Y0)(v3:Int)(hl:l.length≤9223372036854775807)(hf:l.length<fuel):
  a0a (fun rc=>d1j n rc kx kr) fuel (v2,v3,l,(l.length:Int),0,())=a0c (y0i n kr) (fun(v2,v3,_)=>kx (v2,v3,())) 0 l (v2,v3,()):=
 a0d l (fun i (v2,v3,_)=>(v2,v3,l,(l.length:Int),i,())) _ _ _ (fun rec i s=>rfl) hl fuel (v2,v3,()) hf
theorem l1s{ρ:Type}(n:Nat)(kx:Y0×Unit→Option ρ)(kr:Unit→Option ρ)(l:List Y0)(fuel:Nat)(o14:List Int)(hl:l.length≤9223372036854775807)(hf:l.length<fuel):
  a0a (fun rc=>d1g n rc kx kr) fuel (l,(l.length:Int),0,o14,())=a0c (y0m n kr) (fun(o14,_)=>kx (o14,())) 0 l (o14,()):=
 a0d l (fun i (o14,_)=>(l,(l.length:Int),i,o14,())) _ _ _ (fun rec i s=>rfl) hl fuel (o14,()) hf
def q26z(n:Nat):Y8×Unit→Option (Y0×Unit):=
 fun(a1,_)=>
 a0a (fun rc18=>d1j n rc18 (fun(v8,v9,_)=>
 (q14z (v9,())).bind fun(o10,_)=>
 a0a (fun rc17=>d1g n rc17 (fun(o16,_)=>some (o16,())) (fun(_)=>none)) (n) (v8,(v8.length:Int),0,o10,())) (fun(_)=>none)) (n) (a1,0,a1,(a1.length:Int),0,())
def p0p{ρ:Type}(n:Nat)(kr:Unit→Option ρ):Int→Ev.Dot→(Y0×Y4×Y9×Unit)→((Y0×Y4×Y9×Unit)→Option ρ)→Option ρ:=
 fun v6 x9 (v3,o7,o8,_) rec=>
 (ix v3 v6).bind fun x11=>rec (v3,o7,a0e .str .i64 o8 x9.name x11,())
def a1f{ρ:Type}(n:Nat)(rec:Y0×Y36×Int×Int×Y4×Y9×Unit→Option ρ)(kx:Y0×Y4×Y9×Unit→Option ρ)(kr:Unit→Option ρ):Y0×Y36×Int×Int×Y4×Y9×Unit→Option ρ:=
 fun(v3,v4,v5,v6,o7,o8,_)=>
 (bif decide ((v6:Int)<v5)then
 (ix v4 v6).bind fun x9=>
 (ix v3 v6).bind fun x11=>rec (v3,v4,v5,IntKind.wrap .i64 (v6+1),o7,a0e .str .i64 o8 x9.name x11,())
 else kx (v3,o7,o8,()))
def l0c{ρ:Type}(n:Nat)(kr:Unit→Option ρ):Int→Ev.Arrow→(Y0×Y4×Y9×Unit)→((Y0×Y4×Y9×Unit)→Option ρ)→Option ρ:=
 fun v18 x21 (v15,o19,o20,_) rec=>
 (bif !(seq x21.name (⟨#[]⟩:ByteArray))then
 (ix v15 (IntKind.wrap .i64 ((o19.1.dots.length:Int)+v18))).bind fun x23=>rec (v15,o19,a0e .str .i64 o20 x21.name x23,())
 else rec (v15,o19,o20,()))
def d1e{ρ:Type}(n:Nat)(rec:Y0×Y26×Int×Int×Y4×Y9×Unit→Option ρ)(kx:Y9×Unit→Option ρ)(kr:Unit→Option ρ):Y0×Y26×Int×Int×Y4×Y9×Unit→Option ρ:=
 fun(v15,v16,v17,v18,o19,o20,_)=>
 (bif decide ((v18:Int)<v17)then
 (ix v16 v18).bind fun x21=>l0c n kr v18 x21 (v15,o19,o20,()) (fun(w0,w4,w5,_)=>rec (w0,v16,v17,IntKind.wrap .i64 (v18+1),w4,w5,()))
 else kx (o20,()))
theorem k1k{ρ:Type}(n:Nat)(kx:Y0×Y4×Y9×Unit→Option ρ)(kr:Unit→Option ρ)(l:List Ev.Dot)(fuel:Nat)(v3:List Int)(o7:Ev.Query×Unit)(o8:List Y2)(hl:l.length≤9223372036854775807)(hf:l.length<fuel):
  a0a (fun rc=>a1f n rc kx kr) fuel (v3,l,(l.length:Int),0,o7,o8,())=a0c (p0p n kr) (fun(v3,o7,o8,_)=>kx (v3,o7,o8,())) 0 l (v3,o7,o8,()):=
 a0d l (fun i (v3,o7,o8,_)=>(v3,l,(l.length:Int),i,o7,o8,())) _ _ _ (fun rec i s=>rfl) hl fuel (v3,o7,o8,()) hf
theorem q1r{ρ:Type}(n:Nat)(kx:Y9×Unit→Option ρ)(kr:Unit→Option ρ)(l:List Ev.Arrow)(fuel:Nat)(v15:List Int)(o19:Ev.Query×Unit)(o20:List Y2)(hl:l.length≤9223372036854775807)(hf:l.length<fuel):
  a0a (fun rc=>d1e n rc kx kr) fuel (v15,l,(l.length:Int),0,o19,o20,())=a0c (l0c n kr) (fun(v15,o19,o20,_)=>kx (o20,())) 0 l (v15,o19,o20,()):=
 a0d l (fun i (v15,o19,o20,_)=>(v15,l,(l.length:Int),i,o19,o20,())) _ _ _ (fun rec i s=>rfl) hl fuel (v15,o19,o20,()) hf
def q49z(n:Nat):Ev.Query×Y0×Unit→Option (Y9×Unit):=
 fun(a1,a2,_)=>
 a0a (fun rc26=>a1f n rc26 (fun(v12,o13,o14,_)=>
 a0a (fun rc25=>d1e n rc25 (fun(o24,_)=>some (o24,())) (fun(_)=>none)) (n) (v12,o13.1.arrows,(o13.1.arrows.length:Int),0,o13,o14,())) (fun(_)=>none)) (n) (a2,a1.dots,(a1.dots.length:Int),0,(a1,()),([]:List Y2),())
def l1t{ρ:Type}(n:Nat)(rec:Int×Int×Int×Y7×Unit→Option ρ)(kx:Unit→Option ρ)(kr:Ev.Edg×Unit→Option ρ):Int×Int×Int×Y7×Unit→Option ρ:=
 fun(v3,v4,v5,o6,_)=>
 (bif decide ((v5:Int)<v4)then
 (ix o6.1.edges v5).bind fun x7=>
 (bif (x7.id:Int)==v3 then
 (ix o6.1.edges v5).bind fun x8=>kr ((Ev.Edg.mk x8.id x8.src x8.dst x8.type x8.props),())
 else rec (v3,v4,IntKind.wrap .i64 (v5+1),((Ev.Graph.mk o6.1.nodes o6.1.edges o6.1.next),()),()))
 else kx (()))
def q39z(n:Nat):Ev.Graph×Int×Unit→Option ((Option Ev.Edg)×Unit):=
 fun(a1,a2,_)=>
 a0a (fun rc10=>l1t n rc10 (fun(_)=>some (none,())) (fun(v9,_)=>some (some (Ev.Edg.mk v9.id v9.src v9.dst v9.type v9.props),()))) (n) (a2,(a1.edges.length:Int),0,((Ev.Graph.mk a1.nodes a1.edges a1.next),()),())
def b1z{ρ:Type}(n:Nat)(rec:ByteArray×Y29×Int×Int×Y5×Unit→Option ρ)(kx:Y5×Unit→Option ρ)(kr:Y5×Unit→Option ρ):ByteArray×Y29×Int×Int×Y5×Unit→Option ρ:=
 fun(v3,v4,v5,v6,o7,_)=>
 (bif decide ((v6:Int)<v5)then
 (ix v4 v6).bind fun x8=>
 (bif seq x8.name v3 then kr (((Ev.Val.mk x8.val.kind x8.val.n x8.val.s x8.val.l),()),())
 else rec (v3,v4,v5,IntKind.wrap .i64 (v6+1),((Ev.Val.mk o7.1.kind o7.1.n o7.1.s o7.1.l),()),()))
 else kx (((Ev.Val.mk o7.1.kind o7.1.n o7.1.s o7.1.l),()),()))
def q44z(n:Nat):Y29×ByteArray×Unit→Option Y5:=
 fun(a1,a2,_)=>
 a0a (fun rc11=>b1z n rc11 (fun(o9,_)=>some ((Ev.Val.mk 0 0 (⟨#[]⟩:ByteArray) ([]:List Ev.Val)),())) (fun(o10,_)=>some ((Ev.Val.mk o10.1.kind o10.1.n o10.1.s o10.1.l),()))) (n) (a2,a1,(a1.length:Int),0,((Ev.Val.mk 0 0 (⟨#[]⟩:ByteArray) ([]:List Ev.Val)),()),())
def o0x{ρ:Type}(n:Nat)(rec:Y0×Int×Unit→Option ρ)(kx:Y0×Int×Unit→Option ρ)(kr:Unit→Option ρ):Y0×Int×Unit→Option ρ:=
 fun(v2,v3,_)=>
 (bif decide ((v3:Int) >0)then
 (ix v2 (IntKind.wrap .i64 (v3 - 1))).bind fun x4=>
 (bif (x4:Int)==0 then rec (v2,IntKind.wrap .i64 (v3 - 1),())
 else kx (v2,v3,()))
 else kx (v2,v3,()))
def q57z(n:Nat):Y0×Unit→Option (Y0×Unit):=
 fun(a1,_)=>
 a0a (fun rc8=>o0x n rc8 (fun(v5,v6,_)=>
 (lsl v5 0 v6).bind fun l7=>some (l7,())) (fun(_)=>none)) (n) (a1,(a1.length:Int),())
def q47z(n:Nat):Int×Unit→Option (Y0×Unit):=
 fun(a1,_)=>
 (q57z n (([IntKind.wrap .u32 (a1),IntKind.wrap .u32 (bshr .u64 a1 32)]:List Int),())).bind fun(y2,_)=>some (y2,())
def q25z:Bool×Y0×Y14×Unit→Option (Y14×Unit):=
 fun(a1,a2,o3,_)=>some ((a1&& (decide (((a2.length:Int):Int) >0)),a2,()),())
def q9z(n:Nat):Int×Y14×Unit→Option (Y14×Unit):=
 fun(a1,o2,_)=>
 (bif decide ((a1:Int)<0)then
 (q47z n (IntKind.wrap .u64 (0 - (IntKind.wrap .u64 (a1))),())).bind fun(y3,_)=>
 (q25z (decide ((a1:Int)<0),y3,(o2.1,o2.2.1,()),())).bind fun(o4,_)=>some ((o4.1,o4.2.1,()),())
 else
 (q47z n (IntKind.wrap .u64 (a1),())).bind fun(y5,_)=>
 (q25z (decide ((a1:Int)<0),y5,(o2.1,o2.2.1,()),())).bind fun(o6,_)=>some ((o6.1,o6.2.1,()),()))
def q37z(n:Nat):Int×Unit→Option (Y14×Unit):=
 fun(a1,_)=>
 (q9z n (a1,(false,([]:List Int),()),())).bind fun(o2,_)=>some ((o2.1,o2.2.1,()),())
def a1w{ρ:Type}(n:Nat)(rec:Y0×Y0×Int×Int×Y0×Unit→Option ρ)(kx:Y0×Int×Y0×Unit→Option ρ)(kr:Unit→Option ρ):Y0×Y0×Int×Int×Y0×Unit→Option ρ:=
 fun(v4,v5,v6,v7,o8,_)=>
 (bif decide ((v7:Int)< (v4.length:Int))then
 (ix v4 v7).bind fun x9=>
 (bif decide ((v7:Int)< (v5.length:Int))then
 (ix v5 v7).bind fun x10=>
 (ix o8 v7).bind fun _=>
 ((o8)[(v7:Int).toNat]?).bind fun e11=>rec (v4,v5,bshr .u64 (IntKind.wrap .u64 ((IntKind.wrap .u64 (v6+(IntKind.wrap .u64 (x9))))+(IntKind.wrap .u64 (x10)))) 32,IntKind.wrap .i64 (v7+1),(o8).set ((v7:Int).toNat) (IntKind.wrap .u32 (IntKind.wrap .u64 ((IntKind.wrap .u64 (v6+(IntKind.wrap .u64 (x9))))+(IntKind.wrap .u64 (x10))))),())
 else
 (ix o8 v7).bind fun _=>
 ((o8)[(v7:Int).toNat]?).bind fun e12=>rec (v4,v5,bshr .u64 (IntKind.wrap .u64 (v6+(IntKind.wrap .u64 (x9)))) 32,IntKind.wrap .i64 (v7+1),(o8).set ((v7:Int).toNat) (IntKind.wrap .u32 (IntKind.wrap .u64 (v6+(IntKind.wrap .u64 (x9))))),()))
 else kx (v4,v6,o8,()))
def q62z(n:Nat):Y0×Y0×Unit→Option (Y0×Unit):=
 fun(a1,a2,_)=>
 (bif decide (((a1.length:Int):Int)< (a2.length:Int))then
 (cnt? (IntKind.wrap .i64 ((a2.length:Int)+1))).bind fun m3=>
 ck (room m3 4) (
 a0a (fun rc18=>a1w n rc18 (fun(v13,v14,o15,_)=>
 (ix o15 (v13.length:Int)).bind fun _=>
 ((o15)[((v13.length:Int):Int).toNat]?).bind fun e16=>
 (q57z n ((o15).set (((v13.length:Int):Int).toNat) (IntKind.wrap .u32 (v14)),())).bind fun(y17,_)=>some (y17,())) (fun(_)=>none)) (n) (a2,a1,0,0,(List.replicate m3 0),()))
 else
 (cnt? (IntKind.wrap .i64 ((a1.length:Int)+1))).bind fun m19=>
 ck (room m19 4) (
 a0a (fun rc25=>a1w n rc25 (fun(v20,v21,o22,_)=>
 (ix o22 (v20.length:Int)).bind fun _=>
 ((o22)[((v20.length:Int):Int).toNat]?).bind fun e23=>
 (q57z n ((o22).set (((v20.length:Int):Int).toNat) (IntKind.wrap .u32 (v21)),())).bind fun(y24,_)=>some (y24,())) (fun(_)=>none)) (n) (a1,a2,0,0,(List.replicate m19 0),())))
def l1k{ρ:Type}(n:Nat)(rec:Y0×Y0×Int×Unit→Option ρ)(kx:Unit→Option ρ)(kr:Int×Unit→Option ρ):Y0×Y0×Int×Unit→Option ρ:=
 fun(v3,v4,v5,_)=>
 (bif decide ((v5:Int) ≥0)then
 (ix v3 v5).bind fun x8=>
 (ix v4 v5).bind fun x9=>
 (bif (x8:Int) !=x9 then
 (ix v3 v5).bind fun x12=>
 (ix v4 v5).bind fun x13=>
 (bif decide ((x12:Int)<x13)then kr ((-1),())
 else kr (1,()))
 else rec (v3,v4,IntKind.wrap .i64 (v5 - 1),()))
 else kx (()))
def q64z(n:Nat):Y0×Y0×Unit→Option Y10:=
 fun(a1,a2,_)=>
 (bif ((a1.length:Int):Int) !=(a2.length:Int)then
 (bif decide (((a1.length:Int):Int)< (a2.length:Int))then some ((-1),())
 else some (1,()))
 else
 a0a (fun rc15=>l1k n rc15 (fun(_)=>some (0,())) (fun(v14,_)=>some (v14,()))) (n) (a1,a2,IntKind.wrap .i64 ((a1.length:Int) - 1),()))
def n1y{ρ:Type}(n:Nat)(rec:Y0×Y0×Int×Int×Y0×Unit→Option ρ)(kx:Y0×Unit→Option ρ)(kr:Unit→Option ρ):Y0×Y0×Int×Int×Y0×Unit→Option ρ:=
 fun(v4,v5,v6,v7,o8,_)=>
 (bif decide ((v7:Int)< (v4.length:Int))then
 (ix v4 v7).bind fun x9=>
 (bif decide ((v7:Int)< (v5.length:Int))then
 (ix v5 v7).bind fun x10=>
 (ix o8 v7).bind fun _=>
 ((o8)[(v7:Int).toNat]?).bind fun e11=>rec (v4,v5,bshr .u64 (IntKind.wrap .u64 ((IntKind.wrap .u64 ((IntKind.wrap .u64 (x9)) - v6)) - (IntKind.wrap .u64 (x10)))) 63,IntKind.wrap .i64 (v7+1),(o8).set ((v7:Int).toNat) (IntKind.wrap .u32 (IntKind.wrap .u64 ((IntKind.wrap .u64 ((IntKind.wrap .u64 (x9)) - v6)) - (IntKind.wrap .u64 (x10))))),())
 else
 (ix o8 v7).bind fun _=>
 ((o8)[(v7:Int).toNat]?).bind fun e12=>rec (v4,v5,bshr .u64 (IntKind.wrap .u64 ((IntKind.wrap .u64 (x9)) - v6)) 63,IntKind.wrap .i64 (v7+1),(o8).set ((v7:Int).toNat) (IntKind.wrap .u32 (IntKind.wrap .u64 ((IntKind.wrap .u64 (x9)) - v6))),()))
 else kx (o8,()))
def q66z(n:Nat):Y0×Y0×Unit→Option (Y0×Unit):=
 fun(a1,a2,_)=>
 (cnt? (a1.length:Int)).bind fun m3=>
 ck (room m3 4) (
 a0a (fun rc15=>n1y n rc15 (fun(o13,_)=>
 (q57z n (o13,())).bind fun(y14,_)=>some (y14,())) (fun(_)=>none)) (n) (a1,a2,0,0,(List.replicate m3 0),()))
def q67z(n:Nat):Bool×Y0×Bool×Y0×Unit→Option Y14:=
 fun(a1,a2,a3,a4,_)=>
 (bif a1==a3 then
 (q62z n (a2,a4,())).bind fun(y5,_)=>some (a1,y5,())
 else
 (q64z n (a2,a4,())).bind fun(y6,_)=>
 (bif decide ((y6:Int) ≥0)then
 (q66z n (a2,a4,())).bind fun(y7,_)=>some (a1,y7,())
 else
 (q66z n (a4,a2,())).bind fun(y8,_)=>some (a3,y8,())))
def q29z(n:Nat):Y14×Y14×Y14×Unit→Option (Y14×Y14×Y14×Unit):=
 fun(o1,o2,o3,_)=>
 (q67z n (o2.1,o2.2.1,o3.1,o3.2.1,())).bind fun(y4,y5,_)=>
 (q25z (y4,y5,(o1.1,o1.2.1,()),())).bind fun(o6,_)=>some ((o6.1,o6.2.1,()),(o2.1,o2.2.1,()),(o3.1,o3.2.1,()),())
def l0z{ρ:Type}(n:Nat)(rec:Y0×Int×Int×Unit→Option ρ)(kx:Y0×Int×Unit→Option ρ)(kr:Unit→Option ρ):Y0×Int×Int×Unit→Option ρ:=
 fun(v3,v4,v5,_)=>
 (bif (v5:Int) !=0 then rec (v3,IntKind.wrap .i64 (v4+1),bshr .u32 v5 1,())
 else kx (v3,v4,()))
def q38z(n:Nat):Y0×Unit→Option Y10:=
 fun(a1,_)=>
 (bif ((a1.length:Int):Int)==0 then some (0,())
 else
 (ix a1 (IntKind.wrap .i64 ((a1.length:Int) - 1))).bind fun x2=>
 a0a (fun rc8=>l0z n rc8 (fun(v6,v7,_)=>some (IntKind.wrap .i64 ((IntKind.wrap .i64 ((IntKind.wrap .i64 ((v6.length:Int) - 1))*32))+v7),())) (fun(_)=>none)) (n) (a1,0,x2,()))
def q63z:Y0×Int×Unit→Option Y10:=
 fun(a1,a2,_)=>
 (bif (decide ((a2:Int)<0)) || (decide ((bquo .i64 a2 32:Int) ≥(a1.length:Int)))then some (0,())
 else
 (ix a1 (bquo .i64 a2 32)).bind fun x3=>
 (d1d (brem .u64 (IntKind.wrap .u64 (a2)) 32)).bind fun q4=>some (band .u64 (IntKind.wrap .u64 (bshr .u32 x3 q4)) 1,()))
def r0b{ρ:Type}(n:Nat)(rec:Int×Y14×Unit→Option ρ)(kx:Int×Y14×Unit→Option ρ)(kr:Unit→Option ρ):Int×Y14×Unit→Option ρ:=
 fun(v2,o3,_)=>
 (q63z (o3.2.1,IntKind.wrap .i64 (v2),())).bind fun(y4,_)=>
 (bif (y4:Int)==0 then rec (IntKind.wrap .u64 (v2+1),(o3.1,o3.2.1,()),())
 else kx (v2,(o3.1,o3.2.1,()),()))
def q4z(n:Nat):Y14×Unit→Option (Int×Y14×Unit):=
 fun(o1,_)=>
 (bif ((o1.2.1.length:Int):Int)==0 then some (0,(o1.1,o1.2.1,()),())
 else
 a0a (fun rc7=>r0b n rc7 (fun(v5,o6,_)=>some (v5,(o6.1,o6.2.1,()),())) (fun(_)=>none)) (n) (0,(o1.1,o1.2.1,()),()))
def q10z(n:Nat):Y14×Unit→Option (Bool×Y14×Unit):=
 fun(o1,_)=>
 (q38z n (o1.2.1,())).bind fun(y2,_)=>
 (bif decide ((y2:Int)<64)then some (true,(o1.1,o1.2.1,()),())
 else
 (bif ((y2:Int)==64)&&o1.1 then
 (q4z n ((o1.1,o1.2.1,()),())).bind fun(y3,o4,_)=>some ((y3:Int)==63,(o4.1,o4.2.1,()),())
 else some (false,(o1.1,o1.2.1,()),())))
def q13z:Y14×Unit→Option (Int×Y14×Unit):=
 fun(o1,_)=>
 (bif decide (((o1.2.1.length:Int):Int) >0)then
 (ix o1.2.1 0).bind fun x2=>
 (bif decide (((o1.2.1.length:Int):Int) >1)then
 (ix o1.2.1 1).bind fun x3=>some (bor .u64 (IntKind.wrap .u64 (x2)) (bshl .u64 (IntKind.wrap .u64 (x3)) 32),(o1.1,o1.2.1,()),())
 else some (IntKind.wrap .u64 (x2),(o1.1,o1.2.1,()),()))
 else
 (bif decide (((o1.2.1.length:Int):Int) >1)then
 (ix o1.2.1 1).bind fun x4=>some (bor .u64 0 (bshl .u64 (IntKind.wrap .u64 (x4)) 32),(o1.1,o1.2.1,()),())
 else some (0,(o1.1,o1.2.1,()),())))
def q20z:Y14×Unit→Option (Int×Y14×Unit):=
 fun(o1,_)=>
 (q13z ((o1.1,o1.2.1,()),())).bind fun(y2,o3,_)=>
 (bif o3.1 then some (IntKind.wrap .i64 (0 - (IntKind.wrap .i64 (y2))),(o3.1,o3.2.1,()),())
 else some (IntKind.wrap .i64 (y2),(o3.1,o3.2.1,()),()))
def q31z(n:Nat):Y14×Y14×Y14×Unit→Option (Y14×Y14×Y14×Unit):=
 fun(o1,o2,o3,_)=>
 (q67z n (o2.1,o2.2.1, !o3.1,o3.2.1,())).bind fun(y4,y5,_)=>
 (q25z (y4,y5,(o1.1,o1.2.1,()),())).bind fun(o6,_)=>some ((o6.1,o6.2.1,()),(o2.1,o2.2.1,()),(o3.1,o3.2.1,()),())
def q1v{ρ:Type}(n:Nat)(rec:Y0×Y0×Int×Int×Int×Y0×Unit→Option ρ)(kx:Y0×Y0×Int×Int×Y0×Unit→Option ρ)(kr:Unit→Option ρ):Y0×Y0×Int×Int×Int×Y0×Unit→Option ρ:=
 fun(v8,v9,v10,v11,v12,o13,_)=>
 (bif decide ((v12:Int)< (v9.length:Int))then
 (ix v8 v10).bind fun x17=>
 (ix v9 v12).bind fun x18=>
 (ix o13 (IntKind.wrap .i64 (v10+v12))).bind fun _=>
 ((o13)[(IntKind.wrap .i64 (v10+v12):Int).toNat]?).bind fun e19=>
 (ix o13 (IntKind.wrap .i64 (v10+v12))).bind fun _=>
 ((o13)[(IntKind.wrap .i64 (v10+v12):Int).toNat]?).bind fun e20=>rec (v8,v9,v10,bshr .u64 (IntKind.wrap .u64 (v11+(IntKind.wrap .u64 ((IntKind.wrap .u64 ((IntKind.wrap .u64 (x17))*(IntKind.wrap .u64 (x18))))+(IntKind.wrap .u64 (e19)))))) 32,IntKind.wrap .i64 (v12+1),(o13).set ((IntKind.wrap .i64 (v10+v12):Int).toNat) (IntKind.wrap .u32 (IntKind.wrap .u64 (v11+(IntKind.wrap .u64 ((IntKind.wrap .u64 ((IntKind.wrap .u64 (x17))*(IntKind.wrap .u64 (x18))))+(IntKind.wrap .u64 (e19))))))),())
 else kx (v8,v9,v10,v11,o13,()))
def o1t{ρ:Type}(n:Nat)(rec:Y0×Y0×Int×Y0×Unit→Option ρ)(kx:Y0×Unit→Option ρ)(kr:Unit→Option ρ):Y0×Y0×Int×Y0×Unit→Option ρ:=
 fun(v4,v5,v6,o7,_)=>
 (bif decide ((v6:Int)< (v4.length:Int))then
 a0a (fun rc27=>q1v n rc27 (fun(v21,v22,v23,v24,o25,_)=>
 (ix o25 (IntKind.wrap .i64 (v23+(v22.length:Int)))).bind fun _=>
 ((o25)[(IntKind.wrap .i64 (v23+(v22.length:Int)):Int).toNat]?).bind fun e26=>rec (v21,v22,IntKind.wrap .i64 (v23+1),(o25).set ((IntKind.wrap .i64 (v23+(v22.length:Int)):Int).toNat) (IntKind.wrap .u32 (v24)),())) (fun(_)=>none)) (n) (v4,v5,v6,0,0,o7,())
 else kx (o7,()))
def q65z(n:Nat):Y0×Y0×Unit→Option (Y0×Unit):=
 fun(a1,a2,_)=>
 (bif (((a1.length:Int):Int)==0) || (((a2.length:Int):Int)==0)then some (([]:List Int),())
 else
 (cnt? (IntKind.wrap .i64 ((a1.length:Int)+(a2.length:Int)))).bind fun m3=>
 ck (room m3 4) (
 a0a (fun rc30=>o1t n rc30 (fun(o28,_)=>
 (q57z n (o28,())).bind fun(y29,_)=>some (y29,())) (fun(_)=>none)) (n) (a1,a2,0,(List.replicate m3 0),())))
def q30z(n:Nat):Y14×Y14×Y14×Unit→Option (Y14×Y14×Y14×Unit):=
 fun(o1,o2,o3,_)=>
 (q65z n (o2.2.1,o3.2.1,())).bind fun(y4,_)=>
 (q25z (!(o2.1==o3.1),y4,(o1.1,o1.2.1,()),())).bind fun(o5,_)=>some ((o5.1,o5.2.1,()),(o2.1,o2.2.1,()),(o3.1,o3.2.1,()),())
def q28z(n:Nat):ByteArray×Ev.Val×Ev.Val×Unit→Option (Ev.Val×Int×Unit):=
 fun(a1,a2,a3,_)=>
 (bif ((!(seq a1 (⟨#[43]⟩:ByteArray)))&& (!(seq a1 (⟨#[45]⟩:ByteArray))))&& (!(seq a1 (⟨#[42]⟩:ByteArray)))then some ((Ev.Val.mk 0 0 (⟨#[]⟩:ByteArray) ([]:List Ev.Val)),5,())
 else
 (bif ((a2.kind:Int)==0) || ((a3.kind:Int)==0)then some ((Ev.Val.mk 0 0 (⟨#[]⟩:ByteArray) ([]:List Ev.Val)),0,())
 else
 (bif ((a2.kind:Int)==2)&& ((a3.kind:Int)==2)then
 (q37z n (a2.n,())).bind fun(o4,_)=>
 (q37z n (a3.n,())).bind fun(o5,_)=>
 (bif seq a1 (⟨#[43]⟩:ByteArray)then
 (q29z n ((false,([]:List Int),()),(o4.1,o4.2.1,()),(o5.1,o5.2.1,()),())).bind fun(o6,o7,o8,_)=>
 (q10z n ((o6.1,o6.2.1,()),())).bind fun(y9,o10,_)=>
 (bif !y9 then some ((Ev.Val.mk 0 0 (⟨#[]⟩:ByteArray) ([]:List Ev.Val)),4,())
 else
 (q20z ((o10.1,o10.2.1,()),())).bind fun(y11,o12,_)=>some ((Ev.Val.mk 2 y11 (⟨#[]⟩:ByteArray) ([]:List Ev.Val)),0,()))
 else
 (bif seq a1 (⟨#[45]⟩:ByteArray)then
 (q31z n ((false,([]:List Int),()),(o4.1,o4.2.1,()),(o5.1,o5.2.1,()),())).bind fun(o13,o14,o15,_)=>
 (q10z n ((o13.1,o13.2.1,()),())).bind fun(y16,o17,_)=>
 (bif !y16 then some ((Ev.Val.mk 0 0 (⟨#[]⟩:ByteArray) ([]:List Ev.Val)),4,())
 else
 (q20z ((o17.1,o17.2.1,()),())).bind fun(y18,o19,_)=>some ((Ev.Val.mk 2 y18 (⟨#[]⟩:ByteArray) ([]:List Ev.Val)),0,()))
 else
 (q30z n ((false,([]:List Int),()),(o4.1,o4.2.1,()),(o5.1,o5.2.1,()),())).bind fun(o20,o21,o22,_)=>
 (q10z n ((o20.1,o20.2.1,()),())).bind fun(y23,o24,_)=>
 (bif !y23 then some ((Ev.Val.mk 0 0 (⟨#[]⟩:ByteArray) ([]:List Ev.Val)),4,())
 else
 (q20z ((o24.1,o24.2.1,()),())).bind fun(y25,o26,_)=>some ((Ev.Val.mk 2 y25 (⟨#[]⟩:ByteArray) ([]:List Ev.Val)),0,()))))
 else
 (bif ((!(seq a1 (⟨#[43]⟩:ByteArray))) || ((a2.kind:Int) !=a3.kind)) || (((a2.kind:Int) !=3)&& ((a2.kind:Int) !=4))then some ((Ev.Val.mk 0 0 (⟨#[]⟩:ByteArray) ([]:List Ev.Val)),3,())
 else
 (bif (a2.kind:Int)==3 then
 (cat? a2.s a3.s).bind fun s27=>
 (bif decide (((s27.size:Int):Int) >4000)then some ((Ev.Val.mk 0 0 (⟨#[]⟩:ByteArray) ([]:List Ev.Val)),2,())
 else
 (cat? a2.s a3.s).bind fun s28=>some ((Ev.Val.mk 3 0 s28 ([]:List Ev.Val)),0,()))
 else
 (bif decide ((IntKind.wrap .i64 ((a2.l.length:Int)+(a3.l.length:Int)):Int) >30)then some ((Ev.Val.mk 0 0 (⟨#[]⟩:ByteArray) ([]:List Ev.Val)),2,())
 else
 ck (room (([]:List Ev.Val)++a2.l).length 56) (
 ck (room ((([]:List Ev.Val)++a2.l)++a3.l).length 56) (some ((Ev.Val.mk 4 0 (⟨#[]⟩:ByteArray) ((([]:List Ev.Val)++a2.l)++a3.l)),0,())))))))))
def q50z(n:Nat):Ev.Val×Unit→Option Y13:=
 fun(a1,_)=>
 (q18z n ((Ev.Val.mk a1.kind a1.n a1.s a1.l),1,())).bind fun(y2,_)=>some ((y2:Int)==0,())
def q51z:Int×Unit→Option Y5:=
 fun(a1,_)=>
 (bif (a1:Int)==2 then some ((Ev.Val.mk 0 0 (⟨#[]⟩:ByteArray) ([]:List Ev.Val)),())
 else some ((Ev.Val.mk 1 a1 (⟨#[]⟩:ByteArray) ([]:List Ev.Val)),()))
def l0h{ρ:Type}(self_q45z:Ev.Val×Ev.Val×Unit→Option Y5)(n:Nat)(rec:Bool×Int×Int×Y5×Y5×Y5×Unit→Option ρ)(kx:Bool×Y5×Unit→Option ρ)(kr:Y5×Unit→Option ρ):Bool×Int×Int×Y5×Y5×Y5×Unit→Option ρ:=
 fun(v5,v6,v7,o8,o9,o10,_)=>
 (bif decide ((v7:Int)<v6)then
 (ix o8.1.l v7).bind fun x14=>
 (ix o9.1.l v7).bind fun x15=>
 (self_q45z ((Ev.Val.mk x14.kind x14.n x14.s x14.l),(Ev.Val.mk x15.kind x15.n x15.s x15.l),())).bind fun(y16,_)=>
 (bif (y16.kind:Int)==0 then rec (true,v6,IntKind.wrap .i64 (v7+1),((Ev.Val.mk o8.1.kind o8.1.n o8.1.s o8.1.l),()),((Ev.Val.mk o9.1.kind o9.1.n o9.1.s o9.1.l),()),((Ev.Val.mk o10.1.kind o10.1.n o10.1.s o10.1.l),()),())
 else
 (bif (y16.n:Int)==0 then
 (q51z (0,())).bind fun(y17,_)=>kr (((Ev.Val.mk y17.kind y17.n y17.s y17.l),()),())
 else rec (v5,v6,IntKind.wrap .i64 (v7+1),((Ev.Val.mk o8.1.kind o8.1.n o8.1.s o8.1.l),()),((Ev.Val.mk o9.1.kind o9.1.n o9.1.s o9.1.l),()),((Ev.Val.mk o10.1.kind o10.1.n o10.1.s o10.1.l),()),())))
 else kx (v5,((Ev.Val.mk o10.1.kind o10.1.n o10.1.s o10.1.l),()),()))
def m1u(self_q45z:Ev.Val×Ev.Val×Unit→Option Y5)(n:Nat):Ev.Val×Ev.Val×Unit→Option Y5:=
 fun(a1,a2,_)=>
 (bif ((a1.kind:Int)==0) || ((a2.kind:Int)==0)then
 (q51z (2,())).bind fun(y3,_)=>some ((Ev.Val.mk y3.kind y3.n y3.s y3.l),())
 else
 (bif ((a1.kind:Int)==4)&& ((a2.kind:Int)==4)then
 (bif ((a1.l.length:Int):Int) !=(a2.l.length:Int)then
 (q51z (0,())).bind fun(y4,_)=>some ((Ev.Val.mk y4.kind y4.n y4.s y4.l),())
 else
 a0a (fun rc23=>l0h self_q45z n rc23 (fun(v18,o19,_)=>
 (bif v18 then
 (q51z (2,())).bind fun(y21,_)=>some ((Ev.Val.mk y21.kind y21.n y21.s y21.l),())
 else
 (q51z (1,())).bind fun(y22,_)=>some ((Ev.Val.mk y22.kind y22.n y22.s y22.l),()))) (fun(o20,_)=>some ((Ev.Val.mk o20.1.kind o20.1.n o20.1.s o20.1.l),()))) (n) (false,(a1.l.length:Int),0,((Ev.Val.mk a1.kind a1.n a1.s a1.l),()),((Ev.Val.mk a2.kind a2.n a2.s a2.l),()),((Ev.Val.mk 0 0 (⟨#[]⟩:ByteArray) ([]:List Ev.Val)),()),()))
 else
 (q23z n ((Ev.Val.mk a1.kind a1.n a1.s a1.l),(Ev.Val.mk a2.kind a2.n a2.s a2.l),())).bind fun(y24,_)=>
 (bif y24 then
 (q51z (1,())).bind fun(y25,_)=>some ((Ev.Val.mk y25.kind y25.n y25.s y25.l),())
 else
 (q51z (0,())).bind fun(y26,_)=>some ((Ev.Val.mk y26.kind y26.n y26.s y26.l),()))))
def q45z:Nat→Ev.Val×Ev.Val×Unit→Option Y5
 | 0,_=>none
 | n+1,x=>m1u (q45z n) n x
def q42z(n:Nat):Ev.Val×Ev.Val×Unit→Option Y5:=
 fun(a1,a2,_)=>
 (bif ((a1.kind:Int) !=a2.kind) || (((a1.kind:Int) !=2)&& ((a1.kind:Int) !=3))then
 (q51z (2,())).bind fun(y3,_)=>some ((Ev.Val.mk y3.kind y3.n y3.s y3.l),())
 else
 (q34z n ((Ev.Val.mk a1.kind a1.n a1.s a1.l),(Ev.Val.mk a2.kind a2.n a2.s a2.l),())).bind fun(y4,_)=>
 (bif decide ((y4:Int)<0)then
 (q51z (1,())).bind fun(y5,_)=>some ((Ev.Val.mk y5.kind y5.n y5.s y5.l),())
 else
 (q51z (0,())).bind fun(y6,_)=>some ((Ev.Val.mk y6.kind y6.n y6.s y6.l),())))
def q52z:Ev.Val×Unit→Option Y10:=
 fun(a1,_)=>
 (bif (a1.kind:Int) !=1 then some (2,())
 else some (a1.n,()))
def h0c{ρ:Type}(self_q24z:Ev.Graph×Y9×Ev.Term×Unit→Option Y5)(n:Nat)(kr:Unit→Option ρ):Int→Ev.Term→(Y9×Y7×Y17×Y5×Y12×Unit)→((Y9×Y7×Y17×Y5×Y12×Unit)→Option ρ)→Option ρ:=
 fun v16 x21 (v13,o17,o18,o19,o20,_) rec=>
 (self_q24z ((Ev.Graph.mk o17.1.nodes o17.1.edges o17.1.next),v13,(Ev.Term.mk x21.kind (Ev.Val.mk x21.v.kind x21.v.n x21.v.s x21.v.l) x21.name x21.a),())).bind fun(y22,_)=>
 ck (room (o20++([(Ev.Val.mk y22.kind y22.n y22.s y22.l)]:List Ev.Val)).length 56) (rec (v13,((Ev.Graph.mk o17.1.nodes o17.1.edges o17.1.next),()),((Ev.Term.mk o18.1.kind (Ev.Val.mk o18.1.v.kind o18.1.v.n o18.1.v.s o18.1.v.l) o18.1.name o18.1.a),()),((Ev.Val.mk o19.1.kind o19.1.n o19.1.s o19.1.l),()),o20++([(Ev.Val.mk y22.kind y22.n y22.s y22.l)]:List Ev.Val),()))
def a1g{ρ:Type}(self_q24z:Ev.Graph×Y9×Ev.Term×Unit→Option Y5)(n:Nat)(rec:Y9×Y25×Int×Int×Y7×Y17×Y5×Y12×Unit→Option ρ)(kx:Y7×Y17×Y5×Y12×Unit→Option ρ)(kr:Unit→Option ρ):Y9×Y25×Int×Int×Y7×Y17×Y5×Y12×Unit→Option ρ:=
 fun(v13,v14,v15,v16,o17,o18,o19,o20,_)=>
 (bif decide ((v16:Int)<v15)then
 (ix v14 v16).bind fun x21=>h0c self_q24z n kr v16 x21 (v13,o17,o18,o19,o20,()) (fun(w0,w4,w5,w6,w7,_)=>rec (w0,v14,v15,IntKind.wrap .i64 (v16+1),w4,w5,w6,w7,()))
 else kx (((Ev.Graph.mk o17.1.nodes o17.1.edges o17.1.next),()),((Ev.Term.mk o18.1.kind (Ev.Val.mk o18.1.v.kind o18.1.v.n o18.1.v.s o18.1.v.l) o18.1.name o18.1.a),()),((Ev.Val.mk o19.1.kind o19.1.n o19.1.s o19.1.l),()),o20,()))
def h0o{ρ:Type}(self_q24z:Ev.Graph×Y9×Ev.Term×Unit→Option Y5)(n:Nat)(kr:Unit→Option ρ):Int→Ev.Val→(Y12×Y0×Y0×Int×Y5×Unit)→((Y12×Y0×Y0×Int×Y5×Unit)→Option ρ)→Option ρ:=
 fun v93 x95 (v87,v88,v89,v90,o94,_) rec=>
 (ix v87 0).bind fun x98=>
 (q45z n ((Ev.Val.mk x98.kind x98.n x98.s x98.l),(Ev.Val.mk x95.kind x95.n x95.s x95.l),())).bind fun(y99,_)=>
 (q52z ((Ev.Val.mk y99.kind y99.n y99.s y99.l),())).bind fun(y100,_)=>
 (ix v88 y100).bind fun x101=>rec (v87,v88,v89,(if x101>v90 then x101 else v90),((Ev.Val.mk o94.1.kind o94.1.n o94.1.s o94.1.l),()),())
def p0o{ρ:Type}(self_q24z:Ev.Graph×Y9×Ev.Term×Unit→Option Y5)(n:Nat)(rec:Y12×Y0×Y0×Int×Y12×Int×Int×Y5×Unit→Option ρ)(kx:Y0×Int×Y5×Unit→Option ρ)(kr:Unit→Option ρ):Y12×Y0×Y0×Int×Y12×Int×Int×Y5×Unit→Option ρ:=
 fun(v87,v88,v89,v90,v91,v92,v93,o94,_)=>
 (bif decide ((v93:Int)<v92)then
 (ix v91 v93).bind fun x95=>h0o self_q24z n kr v93 x95 (v87,v88,v89,v90,o94,()) (fun(w0,w1,w2,w3,w7,_)=>rec (w0,w1,w2,w3,v91,v92,IntKind.wrap .i64 (v93+1),w7,()))
 else kx (v89,v90,((Ev.Val.mk o94.1.kind o94.1.n o94.1.s o94.1.l),()),()))
def g0p{ρ:Type}(self_q24z:Ev.Graph×Y9×Ev.Term×Unit→Option Y5)(n:Nat)(rec:Int×Y5×(ByteArray×Nat)×Unit→Option ρ)(kx:Int×Y5×Unit→Option ρ)(kr:Unit→Option ρ):Int×Y5×(ByteArray×Nat)×Unit→Option ρ:=
 fun(v110,o111,o112,_)=>
 (bif Nat.blt o112.2 o112.1.size then rec (IntKind.wrap .i64 (v110+1),((Ev.Val.mk o111.1.kind o111.1.n o111.1.s o111.1.l),()),(o112.1,o112.2+(Utf8.decode o112.1 o112.2).2),())
 else kx (v110,((Ev.Val.mk o111.1.kind o111.1.n o111.1.s o111.1.l),()),()))
def h0b{ρ:Type}(self_q24z:Ev.Graph×Y9×Ev.Term×Unit→Option Y5)(n:Nat)(kr:Y5×Unit→Option ρ):Int→Ev.Val→(Y5×Unit)→((Y5×Unit)→Option ρ)→Option ρ:=
 fun v123 x125 (o124,_) rec=>
 (bif (x125.kind:Int) !=0 then kr (((Ev.Val.mk x125.kind x125.n x125.s x125.l),()),())
 else rec (((Ev.Val.mk o124.1.kind o124.1.n o124.1.s o124.1.l),()),()))
def p0q{ρ:Type}(self_q24z:Ev.Graph×Y9×Ev.Term×Unit→Option Y5)(n:Nat)(rec:Y12×Int×Int×Y5×Unit→Option ρ)(kx:Y5×Unit→Option ρ)(kr:Y5×Unit→Option ρ):Y12×Int×Int×Y5×Unit→Option ρ:=
 fun(v121,v122,v123,o124,_)=>
 (bif decide ((v123:Int)<v122)then
 (ix v121 v123).bind fun x125=>h0b self_q24z n kr v123 x125 (o124,()) (fun(w3,_)=>rec (v121,v122,IntKind.wrap .i64 (v123+1),w3,()))
 else kx (((Ev.Val.mk o124.1.kind o124.1.n o124.1.s o124.1.l),()),()))
theorem o1v{ρ:Type}(self_q24z:Ev.Graph×Y9×Ev.Term×Unit→Option Y5)(n:Nat)(kx:Y7×Y17×Y5×Y12×Unit→Option ρ)(kr:Unit→Option ρ)(l:List Ev.Term)(fuel:Nat)(v13:List Y2)(o17:Ev.Graph×Unit)(o18:Ev.Term×Unit)(o19:Ev.Val×Unit)(o20:List Ev.Val)(hl:l.length≤9223372036854775807)(hf:l.length<fuel):
  a0a (fun rc=>a1g self_q24z n rc kx kr) fuel (v13,l,(l.length:Int),0,o17,o18,o19,o20,())=a0c (h0c self_q24z n kr) (fun(v13,o17,o18,o19,o20,_)=>kx (((Ev.Graph.mk o17.1.nodes o17.1.edges o17.1.next),()),((Ev.Term.mk o18.1.kind (Ev.Val.mk o18.1.v.kind o18.1.v.n o18.1.v.s o18.1.v.l) o18.1.name o18.1.a),()),((Ev.Val.mk o19.1.kind o19.1.n o19.1.s o19.1.l),()),o20,())) 0 l (v13,o17,o18,o19,o20,()):=
 a0d l (fun i (v13,o17,o18,o19,o20,_)=>(v13,l,(l.length:Int),i,o17,o18,o19,o20,())) _ _ _ (fun rec i s=>rfl) hl fuel (v13,o17,o18,o19,o20,()) hf
theorem q1t{ρ:Type}(self_q24z:Ev.Graph×Y9×Ev.Term×Unit→Option Y5)(n:Nat)(kx:Y0×Int×Y5×Unit→Option ρ)(kr:Unit→Option ρ)(l:List Ev.Val)(fuel:Nat)(v87:List Ev.Val)(v88:List Int)(v89:List Int)(v90:Int)(o94:Ev.Val×Unit)(hl:l.length≤9223372036854775807)(hf:l.length<fuel):
  a0a (fun rc=>p0o self_q24z n rc kx kr) fuel (v87,v88,v89,v90,l,(l.length:Int),0,o94,())=a0c (h0o self_q24z n kr) (fun(v87,v88,v89,v90,o94,_)=>kx (v89,v90,((Ev.Val.mk o94.1.kind o94.1.n o94.1.s o94.1.l),()),())) 0 l (v87,v88,v89,v90,o94,()):=
 a0d l (fun i (v87,v88,v89,v90,o94,_)=>(v87,v88,v89,v90,l,(l.length:Int),i,o94,())) _ _ _ (fun rec i s=>rfl) hl fuel (v87,v88,v89,v90,o94,()) hf
theorem o1a{ρ:Type}(self_q24z:Ev.Graph×Y9×Ev.Term×Unit→Option Y5)(n:Nat)(kx:Y5×Unit→Option ρ)(kr:Y5×Unit→Option ρ)(l:List Ev.Val)(fuel:Nat)(o124:Ev.Val×Unit)(hl:l.length≤9223372036854775807)(hf:l.length<fuel):
  a0a (fun rc=>p0q self_q24z n rc kx kr) fuel (l,(l.length:Int),0,o124,())=a0c (h0b self_q24z n kr) (fun(o124,_)=>kx (((Ev.Val.mk o124.1.kind o124.1.n o124.1.s o124.1.l),()),())) 0 l (o124,()):=
 a0d l (fun i (o124,_)=>(l,(l.length:Int),i,o124,())) _ _ _ (fun rec i s=>rfl) hl fuel (o124,()) hf
def y0l(self_q24z:Ev.Graph×Y9×Ev.Term×Unit→Option Y5)(n:Nat):Ev.Graph×Y9×Ev.Term×Unit→Option Y5:=
 fun(a1,a2,a3,_)=>
 (bif (a3.kind:Int)==1 then some ((Ev.Val.mk a3.v.kind a3.v.n a3.v.s a3.v.l),())
 else
 (bif (a3.kind:Int)==2 then some ((Ev.Val.mk 2 (a0g .str .i64 0 a2 a3.name) (⟨#[]⟩:ByteArray) ([]:List Ev.Val)),())
 else
 (bif (a3.kind:Int)==3 then
 (ix a3.a 0).bind fun x4=>
 (q43z n ((Ev.Graph.mk a1.nodes a1.edges a1.next),(a0g .str .i64 0 a2 x4.name),())).bind fun(y5,_)=>
 optC y5 (
 (q39z n ((Ev.Graph.mk a1.nodes a1.edges a1.next),(a0g .str .i64 0 a2 x4.name),())).bind fun(y7,_)=>
 optC y7 (some ((Ev.Val.mk 0 0 (⟨#[]⟩:ByteArray) ([]:List Ev.Val)),())) (fun z8=>
 (q44z n (z8.props,a3.name,())).bind fun(y10,_)=>some ((Ev.Val.mk y10.kind y10.n y10.s y10.l),()))) (fun z6=>
 (q44z n (z6.props,a3.name,())).bind fun(y12,_)=>some ((Ev.Val.mk y12.kind y12.n y12.s y12.l),()))
 else
 a0a (fun rc308=>a1g self_q24z n rc308 (fun(o23,o24,o25,o26,_)=>
 (bif seq o24.1.name (⟨#[43]⟩:ByteArray)then
 (bif seq o24.1.name (⟨#[43]⟩:ByteArray)then
 (ix o26 0).bind fun x30=>
 (ix o26 1).bind fun x31=>
 (q28z n (o24.1.name,(Ev.Val.mk x30.kind x30.n x30.s x30.l),(Ev.Val.mk x31.kind x31.n x31.s x31.l),())).bind fun(y32,y33,_)=>
 (bif (y33:Int) !=0 then some ((Ev.Val.mk 0 0 (⟨#[]⟩:ByteArray) ([]:List Ev.Val)),())
 else
 (q50z n ((Ev.Val.mk y32.kind y32.n y32.s y32.l),())).bind fun(y34,_)=>
 (bif !y34 then some ((Ev.Val.mk 0 0 (⟨#[]⟩:ByteArray) ([]:List Ev.Val)),())
 else some ((Ev.Val.mk y32.kind y32.n y32.s y32.l),())))
 else
 (bif seq o24.1.name (⟨#[61]⟩:ByteArray)then
 (ix o26 0).bind fun x38=>
 (ix o26 1).bind fun x39=>
 (q45z n ((Ev.Val.mk x38.kind x38.n x38.s x38.l),(Ev.Val.mk x39.kind x39.n x39.s x39.l),())).bind fun(y40,_)=>some ((Ev.Val.mk y40.kind y40.n y40.s y40.l),())
 else
 (bif seq o24.1.name (⟨#[60]⟩:ByteArray)then
 (ix o26 0).bind fun x44=>
 (ix o26 1).bind fun x45=>
 (q42z n ((Ev.Val.mk x44.kind x44.n x44.s x44.l),(Ev.Val.mk x45.kind x45.n x45.s x45.l),())).bind fun(y46,_)=>some ((Ev.Val.mk y46.kind y46.n y46.s y46.l),())
 else
 (bif seq o24.1.name (⟨#[60,61]⟩:ByteArray)then
 (ix o26 1).bind fun x50=>
 (ix o26 0).bind fun x51=>
 (q42z n ((Ev.Val.mk x50.kind x50.n x50.s x50.l),(Ev.Val.mk x51.kind x51.n x51.s x51.l),())).bind fun(y52,_)=>
 (q52z ((Ev.Val.mk y52.kind y52.n y52.s y52.l),())).bind fun(y53,_)=>
 (ix ([1,0,2]:List Int) y53).bind fun _=>
 ((([1,0,2]:List Int))[(y53:Int).toNat]?).bind fun e54=>
 (q51z (e54,())).bind fun(y55,_)=>some ((Ev.Val.mk y55.kind y55.n y55.s y55.l),())
 else
 (bif seq o24.1.name (⟨#[110,111,116]⟩:ByteArray)then
 (ix o26 0).bind fun x56=>
 (q52z ((Ev.Val.mk x56.kind x56.n x56.s x56.l),())).bind fun(y57,_)=>
 (ix ([1,0,2]:List Int) y57).bind fun x58=>
 (q51z (x58,())).bind fun(y59,_)=>some ((Ev.Val.mk y59.kind y59.n y59.s y59.l),())
 else
 (bif seq o24.1.name (⟨#[111,114]⟩:ByteArray)then
 (ix o26 0).bind fun x63=>
 (q52z ((Ev.Val.mk x63.kind x63.n x63.s x63.l),())).bind fun(y64,_)=>
 (ix ([0,2,1]:List Int) y64).bind fun x65=>
 (ix o26 1).bind fun x66=>
 (q52z ((Ev.Val.mk x66.kind x66.n x66.s x66.l),())).bind fun(y67,_)=>
 (ix ([0,2,1]:List Int) y67).bind fun x68=>
 (ix ([0,2,1]:List Int) (if x68>x65 then x68 else x65)).bind fun x69=>
 (q51z (x69,())).bind fun(y70,_)=>some ((Ev.Val.mk y70.kind y70.n y70.s y70.l),())
 else
 (bif seq o24.1.name (⟨#[97,110,100]⟩:ByteArray)then
 (ix o26 0).bind fun x74=>
 (q52z ((Ev.Val.mk x74.kind x74.n x74.s x74.l),())).bind fun(y75,_)=>
 (ix ([0,2,1]:List Int) y75).bind fun x76=>
 (ix o26 1).bind fun x77=>
 (q52z ((Ev.Val.mk x77.kind x77.n x77.s x77.l),())).bind fun(y78,_)=>
 (ix ([0,2,1]:List Int) y78).bind fun x79=>
 (ix ([0,2,1]:List Int) (if x79<x76 then x79 else x76)).bind fun x80=>
 (q51z (x80,())).bind fun(y81,_)=>some ((Ev.Val.mk y81.kind y81.n y81.s y81.l),())
 else
 (bif seq o24.1.name (⟨#[110,117,108,108]⟩:ByteArray)then
 (ix o26 0).bind fun x82=>
 (bif (x82.kind:Int)==0 then
 (q51z (1,())).bind fun(y83,_)=>some ((Ev.Val.mk y83.kind y83.n y83.s y83.l),())
 else
 (q51z (0,())).bind fun(y84,_)=>some ((Ev.Val.mk y84.kind y84.n y84.s y84.l),()))
 else
 (bif seq o24.1.name (⟨#[105,110]⟩:ByteArray)then
 (ix o26 1).bind fun x85=>
 (bif (x85.kind:Int) !=4 then some ((Ev.Val.mk 0 0 (⟨#[]⟩:ByteArray) ([]:List Ev.Val)),())
 else
 (ix o26 1).bind fun x86=>
 a0a (fun rc107=>p0o self_q24z n rc107 (fun(v102,v103,o104,_)=>
 (ix v102 v103).bind fun x105=>
 (q51z (x105,())).bind fun(y106,_)=>some ((Ev.Val.mk y106.kind y106.n y106.s y106.l),())) (fun(_)=>none)) (n) (o26,([0,2,1]:List Int),([0,2,1]:List Int),0,x86.l,(x86.l.length:Int),0,((Ev.Val.mk o25.1.kind o25.1.n o25.1.s o25.1.l),()),()))
 else
 (bif seq o24.1.name (⟨#[115,105,122,101]⟩:ByteArray)then
 (ix o26 0).bind fun x108=>
 (bif (x108.kind:Int)==3 then
 (ix o26 0).bind fun x109=>
 a0a (fun rc115=>g0p self_q24z n rc115 (fun(v113,o114,_)=>some ((Ev.Val.mk 2 v113 (⟨#[]⟩:ByteArray) ([]:List Ev.Val)),())) (fun(_)=>none)) (n) (0,((Ev.Val.mk o25.1.kind o25.1.n o25.1.s o25.1.l),()),(x109.s,0),())
 else
 (ix o26 0).bind fun x116=>
 (bif (x116.kind:Int)==4 then
 (ix o26 0).bind fun x117=>some ((Ev.Val.mk 2 (x117.l.length:Int) (⟨#[]⟩:ByteArray) ([]:List Ev.Val)),())
 else some ((Ev.Val.mk 0 0 (⟨#[]⟩:ByteArray) ([]:List Ev.Val)),())))
 else
 (bif seq o24.1.name (⟨#[104,101,97,100]⟩:ByteArray)then
 (ix o26 0).bind fun x118=>
 (bif decide (((x118.l.length:Int):Int) >0)then
 (ix o26 0).bind fun x119=>
 (ix x119.l 0).bind fun x120=>some ((Ev.Val.mk x120.kind x120.n x120.s x120.l),())
 else some ((Ev.Val.mk 0 0 (⟨#[]⟩:ByteArray) ([]:List Ev.Val)),()))
 else
 (bif seq o24.1.name (⟨#[99,111,97,108,101,115,99,101]⟩:ByteArray)then
 a0a (fun rc128=>p0q self_q24z n rc128 (fun(o126,_)=>some ((Ev.Val.mk 0 0 (⟨#[]⟩:ByteArray) ([]:List Ev.Val)),())) (fun(o127,_)=>some ((Ev.Val.mk o127.1.kind o127.1.n o127.1.s o127.1.l),()))) (n) (o26,(o26.length:Int),0,((Ev.Val.mk o25.1.kind o25.1.n o25.1.s o25.1.l),()),())
 else
 (bif seq o24.1.name (⟨#[108,105,115,116]⟩:ByteArray)then
 (q50z n ((Ev.Val.mk 4 0 (⟨#[]⟩:ByteArray) o26),())).bind fun(y129,_)=>
 (bif y129 then some ((Ev.Val.mk 4 0 (⟨#[]⟩:ByteArray) o26),())
 else some ((Ev.Val.mk 0 0 (⟨#[]⟩:ByteArray) ([]:List Ev.Val)),()))
 else
 (bif seq o24.1.name (⟨#[105,100]⟩:ByteArray)then
 (ix o26 0).bind fun x130=>some ((Ev.Val.mk x130.kind x130.n x130.s x130.l),())
 else
 (bif seq o24.1.name (⟨#[116,121,112,101]⟩:ByteArray)then
 (ix o26 0).bind fun x133=>
 (q39z n ((Ev.Graph.mk o23.1.nodes o23.1.edges o23.1.next),x133.n,())).bind fun(y134,_)=>
 optC y134 (none) (fun z135=>some ((Ev.Val.mk 3 0 z135.type ([]:List Ev.Val)),()))
 else some ((Ev.Val.mk 0 0 (⟨#[]⟩:ByteArray) ([]:List Ev.Val)),()))))))))))))))))
 else
 (bif seq o24.1.name (⟨#[45]⟩:ByteArray)then
 (bif seq o24.1.name (⟨#[45]⟩:ByteArray)then
 (ix o26 0).bind fun x139=>
 (ix o26 1).bind fun x140=>
 (q28z n (o24.1.name,(Ev.Val.mk x139.kind x139.n x139.s x139.l),(Ev.Val.mk x140.kind x140.n x140.s x140.l),())).bind fun(y141,y142,_)=>
 (bif (y142:Int) !=0 then some ((Ev.Val.mk 0 0 (⟨#[]⟩:ByteArray) ([]:List Ev.Val)),())
 else
 (q50z n ((Ev.Val.mk y141.kind y141.n y141.s y141.l),())).bind fun(y143,_)=>
 (bif !y143 then some ((Ev.Val.mk 0 0 (⟨#[]⟩:ByteArray) ([]:List Ev.Val)),())
 else some ((Ev.Val.mk y141.kind y141.n y141.s y141.l),())))
 else
 (bif seq o24.1.name (⟨#[61]⟩:ByteArray)then
 (ix o26 0).bind fun x147=>
 (ix o26 1).bind fun x148=>
 (q45z n ((Ev.Val.mk x147.kind x147.n x147.s x147.l),(Ev.Val.mk x148.kind x148.n x148.s x148.l),())).bind fun(y149,_)=>some ((Ev.Val.mk y149.kind y149.n y149.s y149.l),())
 else
 (bif seq o24.1.name (⟨#[60]⟩:ByteArray)then
 (ix o26 0).bind fun x153=>
 (ix o26 1).bind fun x154=>
 (q42z n ((Ev.Val.mk x153.kind x153.n x153.s x153.l),(Ev.Val.mk x154.kind x154.n x154.s x154.l),())).bind fun(y155,_)=>some ((Ev.Val.mk y155.kind y155.n y155.s y155.l),())
 else
 (bif seq o24.1.name (⟨#[60,61]⟩:ByteArray)then
 (ix o26 1).bind fun x159=>
 (ix o26 0).bind fun x160=>
 (q42z n ((Ev.Val.mk x159.kind x159.n x159.s x159.l),(Ev.Val.mk x160.kind x160.n x160.s x160.l),())).bind fun(y161,_)=>
 (q52z ((Ev.Val.mk y161.kind y161.n y161.s y161.l),())).bind fun(y162,_)=>
 (ix ([1,0,2]:List Int) y162).bind fun _=>
 ((([1,0,2]:List Int))[(y162:Int).toNat]?).bind fun e163=>
 (q51z (e163,())).bind fun(y164,_)=>some ((Ev.Val.mk y164.kind y164.n y164.s y164.l),())
 else
 (bif seq o24.1.name (⟨#[110,111,116]⟩:ByteArray)then
 (ix o26 0).bind fun x165=>
 (q52z ((Ev.Val.mk x165.kind x165.n x165.s x165.l),())).bind fun(y166,_)=>
 (ix ([1,0,2]:List Int) y166).bind fun x167=>
 (q51z (x167,())).bind fun(y168,_)=>some ((Ev.Val.mk y168.kind y168.n y168.s y168.l),())
 else
 (bif seq o24.1.name (⟨#[111,114]⟩:ByteArray)then
 (ix o26 0).bind fun x172=>
 (q52z ((Ev.Val.mk x172.kind x172.n x172.s x172.l),())).bind fun(y173,_)=>
 (ix ([0,2,1]:List Int) y173).bind fun x174=>
 (ix o26 1).bind fun x175=>
 (q52z ((Ev.Val.mk x175.kind x175.n x175.s x175.l),())).bind fun(y176,_)=>
 (ix ([0,2,1]:List Int) y176).bind fun x177=>
 (ix ([0,2,1]:List Int) (if x177>x174 then x177 else x174)).bind fun x178=>
 (q51z (x178,())).bind fun(y179,_)=>some ((Ev.Val.mk y179.kind y179.n y179.s y179.l),())
 else
 (bif seq o24.1.name (⟨#[97,110,100]⟩:ByteArray)then
 (ix o26 0).bind fun x183=>
 (q52z ((Ev.Val.mk x183.kind x183.n x183.s x183.l),())).bind fun(y184,_)=>
 (ix ([0,2,1]:List Int) y184).bind fun x185=>
 (ix o26 1).bind fun x186=>
 (q52z ((Ev.Val.mk x186.kind x186.n x186.s x186.l),())).bind fun(y187,_)=>
 (ix ([0,2,1]:List Int) y187).bind fun x188=>
 (ix ([0,2,1]:List Int) (if x188<x185 then x188 else x185)).bind fun x189=>
 (q51z (x189,())).bind fun(y190,_)=>some ((Ev.Val.mk y190.kind y190.n y190.s y190.l),())
 else
 (bif seq o24.1.name (⟨#[110,117,108,108]⟩:ByteArray)then
 (ix o26 0).bind fun x191=>
 (bif (x191.kind:Int)==0 then
 (q51z (1,())).bind fun(y192,_)=>some ((Ev.Val.mk y192.kind y192.n y192.s y192.l),())
 else
 (q51z (0,())).bind fun(y193,_)=>some ((Ev.Val.mk y193.kind y193.n y193.s y193.l),()))
 else
 (bif seq o24.1.name (⟨#[105,110]⟩:ByteArray)then
 (ix o26 1).bind fun x194=>
 (bif (x194.kind:Int) !=4 then some ((Ev.Val.mk 0 0 (⟨#[]⟩:ByteArray) ([]:List Ev.Val)),())
 else
 (ix o26 1).bind fun x195=>
 a0a (fun rc201=>p0o self_q24z n rc201 (fun(v196,v197,o198,_)=>
 (ix v196 v197).bind fun x199=>
 (q51z (x199,())).bind fun(y200,_)=>some ((Ev.Val.mk y200.kind y200.n y200.s y200.l),())) (fun(_)=>none)) (n) (o26,([0,2,1]:List Int),([0,2,1]:List Int),0,x195.l,(x195.l.length:Int),0,((Ev.Val.mk o25.1.kind o25.1.n o25.1.s o25.1.l),()),()))
 else
 (bif seq o24.1.name (⟨#[115,105,122,101]⟩:ByteArray)then
 (ix o26 0).bind fun x202=>
 (bif (x202.kind:Int)==3 then
 (ix o26 0).bind fun x203=>
 a0a (fun rc206=>g0p self_q24z n rc206 (fun(v204,o205,_)=>some ((Ev.Val.mk 2 v204 (⟨#[]⟩:ByteArray) ([]:List Ev.Val)),())) (fun(_)=>none)) (n) (0,((Ev.Val.mk o25.1.kind o25.1.n o25.1.s o25.1.l),()),(x203.s,0),())
 else
 (ix o26 0).bind fun x207=>
 (bif (x207.kind:Int)==4 then
 (ix o26 0).bind fun x208=>some ((Ev.Val.mk 2 (x208.l.length:Int) (⟨#[]⟩:ByteArray) ([]:List Ev.Val)),())
 else some ((Ev.Val.mk 0 0 (⟨#[]⟩:ByteArray) ([]:List Ev.Val)),())))
 else
 (bif seq o24.1.name (⟨#[104,101,97,100]⟩:ByteArray)then
 (ix o26 0).bind fun x209=>
 (bif decide (((x209.l.length:Int):Int) >0)then
 (ix o26 0).bind fun x210=>
 (ix x210.l 0).bind fun x211=>some ((Ev.Val.mk x211.kind x211.n x211.s x211.l),())
 else some ((Ev.Val.mk 0 0 (⟨#[]⟩:ByteArray) ([]:List Ev.Val)),()))
 else
 (bif seq o24.1.name (⟨#[99,111,97,108,101,115,99,101]⟩:ByteArray)then
 a0a (fun rc214=>p0q self_q24z n rc214 (fun(o212,_)=>some ((Ev.Val.mk 0 0 (⟨#[]⟩:ByteArray) ([]:List Ev.Val)),())) (fun(o213,_)=>some ((Ev.Val.mk o213.1.kind o213.1.n o213.1.s o213.1.l),()))) (n) (o26,(o26.length:Int),0,((Ev.Val.mk o25.1.kind o25.1.n o25.1.s o25.1.l),()),())
 else
 (bif seq o24.1.name (⟨#[108,105,115,116]⟩:ByteArray)then
 (q50z n ((Ev.Val.mk 4 0 (⟨#[]⟩:ByteArray) o26),())).bind fun(y215,_)=>
 (bif y215 then some ((Ev.Val.mk 4 0 (⟨#[]⟩:ByteArray) o26),())
 else some ((Ev.Val.mk 0 0 (⟨#[]⟩:ByteArray) ([]:List Ev.Val)),()))
 else
 (bif seq o24.1.name (⟨#[105,100]⟩:ByteArray)then
 (ix o26 0).bind fun x216=>some ((Ev.Val.mk x216.kind x216.n x216.s x216.l),())
 else
 (bif seq o24.1.name (⟨#[116,121,112,101]⟩:ByteArray)then
 (ix o26 0).bind fun x219=>
 (q39z n ((Ev.Graph.mk o23.1.nodes o23.1.edges o23.1.next),x219.n,())).bind fun(y220,_)=>
 optC y220 (none) (fun z221=>some ((Ev.Val.mk 3 0 z221.type ([]:List Ev.Val)),()))
 else some ((Ev.Val.mk 0 0 (⟨#[]⟩:ByteArray) ([]:List Ev.Val)),()))))))))))))))))
 else
 (bif seq o24.1.name (⟨#[42]⟩:ByteArray)then
 (ix o26 0).bind fun x225=>
 (ix o26 1).bind fun x226=>
 (q28z n (o24.1.name,(Ev.Val.mk x225.kind x225.n x225.s x225.l),(Ev.Val.mk x226.kind x226.n x226.s x226.l),())).bind fun(y227,y228,_)=>
 (bif (y228:Int) !=0 then some ((Ev.Val.mk 0 0 (⟨#[]⟩:ByteArray) ([]:List Ev.Val)),())
 else
 (q50z n ((Ev.Val.mk y227.kind y227.n y227.s y227.l),())).bind fun(y229,_)=>
 (bif !y229 then some ((Ev.Val.mk 0 0 (⟨#[]⟩:ByteArray) ([]:List Ev.Val)),())
 else some ((Ev.Val.mk y227.kind y227.n y227.s y227.l),())))
 else
 (bif seq o24.1.name (⟨#[61]⟩:ByteArray)then
 (ix o26 0).bind fun x233=>
 (ix o26 1).bind fun x234=>
 (q45z n ((Ev.Val.mk x233.kind x233.n x233.s x233.l),(Ev.Val.mk x234.kind x234.n x234.s x234.l),())).bind fun(y235,_)=>some ((Ev.Val.mk y235.kind y235.n y235.s y235.l),())
 else
 (bif seq o24.1.name (⟨#[60]⟩:ByteArray)then
 (ix o26 0).bind fun x239=>
 (ix o26 1).bind fun x240=>
 (q42z n ((Ev.Val.mk x239.kind x239.n x239.s x239.l),(Ev.Val.mk x240.kind x240.n x240.s x240.l),())).bind fun(y241,_)=>some ((Ev.Val.mk y241.kind y241.n y241.s y241.l),())
 else
 (bif seq o24.1.name (⟨#[60,61]⟩:ByteArray)then
 (ix o26 1).bind fun x245=>
 (ix o26 0).bind fun x246=>
 (q42z n ((Ev.Val.mk x245.kind x245.n x245.s x245.l),(Ev.Val.mk x246.kind x246.n x246.s x246.l),())).bind fun(y247,_)=>
 (q52z ((Ev.Val.mk y247.kind y247.n y247.s y247.l),())).bind fun(y248,_)=>
 (ix ([1,0,2]:List Int) y248).bind fun _=>
 ((([1,0,2]:List Int))[(y248:Int).toNat]?).bind fun e249=>
 (q51z (e249,())).bind fun(y250,_)=>some ((Ev.Val.mk y250.kind y250.n y250.s y250.l),())
 else
 (bif seq o24.1.name (⟨#[110,111,116]⟩:ByteArray)then
 (ix o26 0).bind fun x251=>
 (q52z ((Ev.Val.mk x251.kind x251.n x251.s x251.l),())).bind fun(y252,_)=>
 (ix ([1,0,2]:List Int) y252).bind fun x253=>
 (q51z (x253,())).bind fun(y254,_)=>some ((Ev.Val.mk y254.kind y254.n y254.s y254.l),())
 else
 (bif seq o24.1.name (⟨#[111,114]⟩:ByteArray)then
 (ix o26 0).bind fun x258=>
 (q52z ((Ev.Val.mk x258.kind x258.n x258.s x258.l),())).bind fun(y259,_)=>
 (ix ([0,2,1]:List Int) y259).bind fun x260=>
 (ix o26 1).bind fun x261=>
 (q52z ((Ev.Val.mk x261.kind x261.n x261.s x261.l),())).bind fun(y262,_)=>
 (ix ([0,2,1]:List Int) y262).bind fun x263=>
 (ix ([0,2,1]:List Int) (if x263>x260 then x263 else x260)).bind fun x264=>
 (q51z (x264,())).bind fun(y265,_)=>some ((Ev.Val.mk y265.kind y265.n y265.s y265.l),())
 else
 (bif seq o24.1.name (⟨#[97,110,100]⟩:ByteArray)then
 (ix o26 0).bind fun x269=>
 (q52z ((Ev.Val.mk x269.kind x269.n x269.s x269.l),())).bind fun(y270,_)=>
 (ix ([0,2,1]:List Int) y270).bind fun x271=>
 (ix o26 1).bind fun x272=>
 (q52z ((Ev.Val.mk x272.kind x272.n x272.s x272.l),())).bind fun(y273,_)=>
 (ix ([0,2,1]:List Int) y273).bind fun x274=>
 (ix ([0,2,1]:List Int) (if x274<x271 then x274 else x271)).bind fun x275=>
 (q51z (x275,())).bind fun(y276,_)=>some ((Ev.Val.mk y276.kind y276.n y276.s y276.l),())
 else
 (bif seq o24.1.name (⟨#[110,117,108,108]⟩:ByteArray)then
 (ix o26 0).bind fun x277=>
 (bif (x277.kind:Int)==0 then
 (q51z (1,())).bind fun(y278,_)=>some ((Ev.Val.mk y278.kind y278.n y278.s y278.l),())
 else
 (q51z (0,())).bind fun(y279,_)=>some ((Ev.Val.mk y279.kind y279.n y279.s y279.l),()))
 else
 (bif seq o24.1.name (⟨#[105,110]⟩:ByteArray)then
 (ix o26 1).bind fun x280=>
 (bif (x280.kind:Int) !=4 then some ((Ev.Val.mk 0 0 (⟨#[]⟩:ByteArray) ([]:List Ev.Val)),())
 else
 (ix o26 1).bind fun x281=>
 a0a (fun rc287=>p0o self_q24z n rc287 (fun(v282,v283,o284,_)=>
 (ix v282 v283).bind fun x285=>
 (q51z (x285,())).bind fun(y286,_)=>some ((Ev.Val.mk y286.kind y286.n y286.s y286.l),())) (fun(_)=>none)) (n) (o26,([0,2,1]:List Int),([0,2,1]:List Int),0,x281.l,(x281.l.length:Int),0,((Ev.Val.mk o25.1.kind o25.1.n o25.1.s o25.1.l),()),()))
 else
 (bif seq o24.1.name (⟨#[115,105,122,101]⟩:ByteArray)then
 (ix o26 0).bind fun x288=>
 (bif (x288.kind:Int)==3 then
 (ix o26 0).bind fun x289=>
 a0a (fun rc292=>g0p self_q24z n rc292 (fun(v290,o291,_)=>some ((Ev.Val.mk 2 v290 (⟨#[]⟩:ByteArray) ([]:List Ev.Val)),())) (fun(_)=>none)) (n) (0,((Ev.Val.mk o25.1.kind o25.1.n o25.1.s o25.1.l),()),(x289.s,0),())
 else
 (ix o26 0).bind fun x293=>
 (bif (x293.kind:Int)==4 then
 (ix o26 0).bind fun x294=>some ((Ev.Val.mk 2 (x294.l.length:Int) (⟨#[]⟩:ByteArray) ([]:List Ev.Val)),())
 else some ((Ev.Val.mk 0 0 (⟨#[]⟩:ByteArray) ([]:List Ev.Val)),())))
 else
 (bif seq o24.1.name (⟨#[104,101,97,100]⟩:ByteArray)then
 (ix o26 0).bind fun x295=>
 (bif decide (((x295.l.length:Int):Int) >0)then
 (ix o26 0).bind fun x296=>
 (ix x296.l 0).bind fun x297=>some ((Ev.Val.mk x297.kind x297.n x297.s x297.l),())
 else some ((Ev.Val.mk 0 0 (⟨#[]⟩:ByteArray) ([]:List Ev.Val)),()))
 else
 (bif seq o24.1.name (⟨#[99,111,97,108,101,115,99,101]⟩:ByteArray)then
 a0a (fun rc300=>p0q self_q24z n rc300 (fun(o298,_)=>some ((Ev.Val.mk 0 0 (⟨#[]⟩:ByteArray) ([]:List Ev.Val)),())) (fun(o299,_)=>some ((Ev.Val.mk o299.1.kind o299.1.n o299.1.s o299.1.l),()))) (n) (o26,(o26.length:Int),0,((Ev.Val.mk o25.1.kind o25.1.n o25.1.s o25.1.l),()),())
 else
 (bif seq o24.1.name (⟨#[108,105,115,116]⟩:ByteArray)then
 (q50z n ((Ev.Val.mk 4 0 (⟨#[]⟩:ByteArray) o26),())).bind fun(y301,_)=>
 (bif y301 then some ((Ev.Val.mk 4 0 (⟨#[]⟩:ByteArray) o26),())
 else some ((Ev.Val.mk 0 0 (⟨#[]⟩:ByteArray) ([]:List Ev.Val)),()))
 else
 (bif seq o24.1.name (⟨#[105,100]⟩:ByteArray)then
 (ix o26 0).bind fun x302=>some ((Ev.Val.mk x302.kind x302.n x302.s x302.l),())
 else
 (bif seq o24.1.name (⟨#[116,121,112,101]⟩:ByteArray)then
 (ix o26 0).bind fun x305=>
 (q39z n ((Ev.Graph.mk o23.1.nodes o23.1.edges o23.1.next),x305.n,())).bind fun(y306,_)=>
 optC y306 (none) (fun z307=>some ((Ev.Val.mk 3 0 z307.type ([]:List Ev.Val)),()))
 else some ((Ev.Val.mk 0 0 (⟨#[]⟩:ByteArray) ([]:List Ev.Val)),()))))))))))))))))))) (fun(_)=>none)) (n) (a2,a3.a,(a3.a.length:Int),0,((Ev.Graph.mk a1.nodes a1.edges a1.next),()),((Ev.Term.mk a3.kind (Ev.Val.mk a3.v.kind a3.v.n a3.v.s a3.v.l) a3.name a3.a),()),((Ev.Val.mk 0 0 (⟨#[]⟩:ByteArray) ([]:List Ev.Val)),()),([]:List Ev.Val),()))))
def q24z:Nat→Ev.Graph×Y9×Ev.Term×Unit→Option Y5
 | 0,_=>none
 | n+1,x=>y0l (q24z n) n x
def k0m{ρ:Type}(n:Nat)(kr:Unit→Option ρ):Int→Ev.Arrow→(Int×Y4×Y7×Y21×Unit)→((Int×Y4×Y7×Y21×Unit)→Option ρ)→Option ρ:=
 fun v6 x10 (v3,o7,o8,o9,_) rec=>
 (bif x10.many then
 (q35z n (o8.1,x10.type,())).bind fun(y11,_)=>
 ck (room (o9++([y11]:List Y3)).length 8) (rec (v3,o7,o8,o9++([y11]:List Y3),()))
 else
 ck (room (o9++([([]:List Y33)]:List Y3)).length 8) (rec (v3,o7,o8,o9++([([]:List Y33)]:List Y3),())))
def a1v{ρ:Type}(n:Nat)(rec:Int×Y26×Int×Int×Y4×Y7×Y21×Unit→Option ρ)(kx:Int×Y4×Y7×Y21×Unit→Option ρ)(kr:Unit→Option ρ):Int×Y26×Int×Int×Y4×Y7×Y21×Unit→Option ρ:=
 fun(v3,v4,v5,v6,o7,o8,o9,_)=>
 (bif decide ((v6:Int)<v5)then
 (ix v4 v6).bind fun x10=>k0m n kr v6 x10 (v3,o7,o8,o9,()) (fun(w0,w4,w5,w6,_)=>rec (w0,v4,v5,IntKind.wrap .i64 (v6+1),w4,w5,w6,()))
 else kx (v3,o7,o8,o9,()))
def g0t{ρ:Type}(n:Nat)(rec:Int×Y21×Int×Y0×Bool×Int×Int×Y8×Int×Int×Y11×Int×Int×Int×Int×Y4×Y7×Y8×Y18×Unit→Option ρ)(kx:Int×Y21×Int×Y0×Bool×Int×Int×Y8×Int×Int×Y11×Int×Int×Y4×Y7×Y8×Y18×Unit→Option ρ)(kr:Unit→Option ρ):Int×Y21×Int×Y0×Bool×Int×Int×Y8×Int×Int×Y11×Int×Int×Int×Int×Y4×Y7×Y8×Y18×Unit→Option ρ:=
 fun(v56,v57,v58,v59,v60,v61,v62,v63,v64,v65,v66,v67,v68,v69,v70,o71,o72,o73,o74,_)=>
 (bif decide ((v70:Int)<v69)then
 (bif v60 then
 (ix o71.1.dots v58).bind fun x79=>
 (bif seq x79.name (⟨#[]⟩:ByteArray)then rec (v56,v57,v58,v59,true,v61,v62,v63,v64,v65,v66,v67,v68,v69,IntKind.wrap .i64 (v70+1),o71,o72,o73,o74,())
 else
 (ix o71.1.dots v70).bind fun x80=>
 (ix o71.1.dots v58).bind fun x81=>
 (bif !(seq x80.name x81.name)then rec (v56,v57,v58,v59,true,v61,v62,v63,v64,v65,v66,v67,v68,v69,IntKind.wrap .i64 (v70+1),o71,o72,o73,o74,())
 else
 (ix v59 (IntKind.wrap .i64 (2*v70))).bind fun x82=>rec (v56,v57,v58,v59,(x82:Int)==o74.1.id,v61,v62,v63,v64,v65,v66,v67,v68,v69,IntKind.wrap .i64 (v70+1),o71,o72,o73,o74,())))
 else rec (v56,v57,v58,v59,false,v61,v62,v63,v64,v65,v66,v67,v68,v69,IntKind.wrap .i64 (v70+1),o71,o72,o73,o74,()))
 else kx (v56,v57,v58,v59,v60,v61,v62,v63,v64,v65,v66,v67,v68,o71,o72,o73,o74,()))
def i0a{ρ:Type}(n:Nat)(kr:Unit→Option ρ):Int→Ev.Edg→Y24→(Y24→Option ρ)→Option ρ:=
 fun v121 x127 (v105,v106,v107,v108,v109,v110,v111,v112,v113,v114,v115,v116,v117,v118,o122,o123,o124,o125,o126,_) rec=>
 (bif (((x127.src:Int)==v109)&& ((x127.dst:Int)==v110))&& ((seq o126.1.type (⟨#[]⟩:ByteArray)) || (seq o126.1.type x127.type))then
 (q26z n (([v108,([x127.id,o125.1.id]:List Int)]:List Y0),())).bind fun(y128,_)=>
 ck (room (o124++([y128]:List Y0)).length 24) (rec (v105,v106,v107,v108,v109,v110,v111,v112,v113,v114,v115,v116,v117,v118,o122,o123,o124++([y128]:List Y0),o125,o126,()))
 else rec (v105,v106,v107,v108,v109,v110,v111,v112,v113,v114,v115,v116,v117,v118,o122,o123,o124,o125,o126,()))
def e0e{ρ:Type}(n:Nat)(rec:Int×Y21×Int×Y0×Int×Int×Int×Int×Y8×Int×Int×Y11×Int×Int×Y31×Int×Int×Y4×Y7×Y8×Y18×(Ev.Arrow×Unit)×Unit→Option ρ)(kx:Int×Y21×Int×Y0×Int×Int×Y8×Int×Int×Y11×Int×Int×Y4×Y7×Y8×Unit→Option ρ)(kr:Unit→Option ρ):Int×Y21×Int×Y0×Int×Int×Int×Int×Y8×Int×Int×Y11×Int×Int×Y31×Int×Int×Y4×Y7×Y8×Y18×(Ev.Arrow×Unit)×Unit→Option ρ:=
 fun(v105,v106,v107,v108,v109,v110,v111,v112,v113,v114,v115,v116,v117,v118,v119,v120,v121,o122,o123,o124,o125,o126,_)=>
 (bif decide ((v121:Int)<v120)then
 (ix v119 v121).bind fun x127=>i0a n kr v121 x127 (v105,v106,v107,v108,v109,v110,v111,v112,v113,v114,v115,v116,v117,v118,o122,o123,o124,o125,o126,()) (fun(w0,w1,w2,w3,w4,w5,w6,w7,w8,w9,w10,w11,w12,w13,w17,w18,w19,w20,w21,_)=>rec (w0,w1,w2,w3,w4,w5,w6,w7,w8,w9,w10,w11,w12,w13,v119,v120,IntKind.wrap .i64 (v121+1),w17,w18,w19,w20,w21,()))
 else kx (v105,v106,v107,v108,v111,v112,v113,v114,v115,v116,v117,v118,o122,o123,o124,()))
def l0o{ρ:Type}(n:Nat)(rec:Int×Y21×Int×Y0×Int×Int×Y8×Int×Int×Y11×Int×Int×Y4×Y7×Y8×Unit→Option ρ)(kx:Int×Y21×Int×Int×Int×Y8×Int×Int×Y4×Y7×Y8×Unit→Option ρ)(kr:Unit→Option ρ):Int×Y21×Int×Y0×Int×Int×Y8×Int×Int×Y11×Int×Int×Y4×Y7×Y8×Unit→Option ρ:=
 fun(v35,v36,v37,v38,v39,v40,v41,v42,v43,v44,v45,v46,o47,o48,o49,_)=>
 (bif decide ((v46:Int)<v45)then
 (ix v44 v46).bind fun x50=>
 (ix o47.1.dots v37).bind fun x53=>
 (bif !(seq x53.label (⟨#[]⟩:ByteArray))then
 (ix o47.1.dots v37).bind fun x54=>
 (q7z n (x50.labels,x54.label,())).bind fun(y55,_)=>
 (bif !y55 then rec (v35,v36,v37,v38,v39,v40,v41,v42,v43,v44,v45,IntKind.wrap .i64 (v46+1),o47,o48,o49,())
 else
 a0a (fun rc163=>g0t n rc163 (fun(v83,v84,v85,v86,v87,v88,v89,v90,v91,v92,v93,v94,v95,o96,o97,o98,o99,_)=>
 (bif !v87 then rec (v83,v84,v85,v86,v88,v89,v90,v91,v92,v93,v94,IntKind.wrap .i64 (v95+1),o96,o97,o98,())
 else
 (bif (v85:Int)==0 then
 ck (room (o98++([([o99.1.id]:List Int)]:List Y0)).length 24) (rec (v83,v84,v85,v86,v88,v89,v90,v91,v92,v93,v94,IntKind.wrap .i64 (v95+1),o96,o97,o98++([([o99.1.id]:List Int)]:List Y0),()))
 else
 (ix o96.1.arrows (IntKind.wrap .i64 (v85 - 1))).bind fun x100=>
 (ix v86 (IntKind.wrap .i64 ((IntKind.wrap .i64 (2*v85)) - 2))).bind fun x102=>
 (bif x100.back then
 (bif x100.many then
 (ix v84 (IntKind.wrap .i64 (v85 - 1))).bind fun x103=>
 (bif (a0g .pair .bool false x103 (Ev.Pair.mk o99.1.id x102))then
 (q26z n (([v86,([0,o99.1.id]:List Int)]:List Y0),())).bind fun(y104,_)=>
 ck (room (o98++([y104]:List Y0)).length 24) (rec (v83,v84,v85,v86,v88,v89,v90,v91,v92,v93,v94,IntKind.wrap .i64 (v95+1),o96,o97,o98++([y104]:List Y0),()))
 else rec (v83,v84,v85,v86,v88,v89,v90,v91,v92,v93,v94,IntKind.wrap .i64 (v95+1),o96,o97,o98,()))
 else
 a0a (fun rc144=>e0e n rc144 (fun(v129,v130,v131,v132,v133,v134,v135,v136,v137,v138,v139,v140,o141,o142,o143,_)=>rec (v129,v130,v131,v132,v133,v134,v135,v136,v137,v138,v139,IntKind.wrap .i64 (v140+1),o141,o142,o143,())) (fun(_)=>none)) (n) (v83,v84,v85,v86,o99.1.id,x102,v88,v89,v90,v91,v92,v93,v94,v95,o97.1.edges,(o97.1.edges.length:Int),0,o96,o97,o98,o99,(x100,()),()))
 else
 (bif x100.many then
 (ix v84 (IntKind.wrap .i64 (v85 - 1))).bind fun x145=>
 (bif (a0g .pair .bool false x145 (Ev.Pair.mk x102 o99.1.id))then
 (q26z n (([v86,([0,o99.1.id]:List Int)]:List Y0),())).bind fun(y146,_)=>
 ck (room (o98++([y146]:List Y0)).length 24) (rec (v83,v84,v85,v86,v88,v89,v90,v91,v92,v93,v94,IntKind.wrap .i64 (v95+1),o96,o97,o98++([y146]:List Y0),()))
 else rec (v83,v84,v85,v86,v88,v89,v90,v91,v92,v93,v94,IntKind.wrap .i64 (v95+1),o96,o97,o98,()))
 else
 a0a (fun rc162=>e0e n rc162 (fun(v147,v148,v149,v150,v151,v152,v153,v154,v155,v156,v157,v158,o159,o160,o161,_)=>rec (v147,v148,v149,v150,v151,v152,v153,v154,v155,v156,v157,IntKind.wrap .i64 (v158+1),o159,o160,o161,())) (fun(_)=>none)) (n) (v83,v84,v85,v86,x102,o99.1.id,v88,v89,v90,v91,v92,v93,v94,v95,o97.1.edges,(o97.1.edges.length:Int),0,o96,o97,o98,o99,(x100,()),())))))) (fun(_)=>none)) (n) (v35,v36,v37,v38,true,v39,v40,v41,v42,v43,v44,v45,v46,v37,0,o47,o48,o49,(x50,()),()))
 else
 a0a (fun rc220=>g0t n rc220 (fun(v164,v165,v166,v167,v168,v169,v170,v171,v172,v173,v174,v175,v176,o177,o178,o179,o180,_)=>
 (bif !v168 then rec (v164,v165,v166,v167,v169,v170,v171,v172,v173,v174,v175,IntKind.wrap .i64 (v176+1),o177,o178,o179,())
 else
 (bif (v166:Int)==0 then
 ck (room (o179++([([o180.1.id]:List Int)]:List Y0)).length 24) (rec (v164,v165,v166,v167,v169,v170,v171,v172,v173,v174,v175,IntKind.wrap .i64 (v176+1),o177,o178,o179++([([o180.1.id]:List Int)]:List Y0),()))
 else
 (ix o177.1.arrows (IntKind.wrap .i64 (v166 - 1))).bind fun x181=>
 (ix v167 (IntKind.wrap .i64 ((IntKind.wrap .i64 (2*v166)) - 2))).bind fun x183=>
 (bif x181.back then
 (bif x181.many then
 (ix v165 (IntKind.wrap .i64 (v166 - 1))).bind fun x184=>
 (bif (a0g .pair .bool false x184 (Ev.Pair.mk o180.1.id x183))then
 (q26z n (([v167,([0,o180.1.id]:List Int)]:List Y0),())).bind fun(y185,_)=>
 ck (room (o179++([y185]:List Y0)).length 24) (rec (v164,v165,v166,v167,v169,v170,v171,v172,v173,v174,v175,IntKind.wrap .i64 (v176+1),o177,o178,o179++([y185]:List Y0),()))
 else rec (v164,v165,v166,v167,v169,v170,v171,v172,v173,v174,v175,IntKind.wrap .i64 (v176+1),o177,o178,o179,()))
 else
 a0a (fun rc201=>e0e n rc201 (fun(v186,v187,v188,v189,v190,v191,v192,v193,v194,v195,v196,v197,o198,o199,o200,_)=>rec (v186,v187,v188,v189,v190,v191,v192,v193,v194,v195,v196,IntKind.wrap .i64 (v197+1),o198,o199,o200,())) (fun(_)=>none)) (n) (v164,v165,v166,v167,o180.1.id,x183,v169,v170,v171,v172,v173,v174,v175,v176,o178.1.edges,(o178.1.edges.length:Int),0,o177,o178,o179,o180,(x181,()),()))
 else
 (bif x181.many then
 (ix v165 (IntKind.wrap .i64 (v166 - 1))).bind fun x202=>
 (bif (a0g .pair .bool false x202 (Ev.Pair.mk x183 o180.1.id))then
 (q26z n (([v167,([0,o180.1.id]:List Int)]:List Y0),())).bind fun(y203,_)=>
 ck (room (o179++([y203]:List Y0)).length 24) (rec (v164,v165,v166,v167,v169,v170,v171,v172,v173,v174,v175,IntKind.wrap .i64 (v176+1),o177,o178,o179++([y203]:List Y0),()))
 else rec (v164,v165,v166,v167,v169,v170,v171,v172,v173,v174,v175,IntKind.wrap .i64 (v176+1),o177,o178,o179,()))
 else
 a0a (fun rc219=>e0e n rc219 (fun(v204,v205,v206,v207,v208,v209,v210,v211,v212,v213,v214,v215,o216,o217,o218,_)=>rec (v204,v205,v206,v207,v208,v209,v210,v211,v212,v213,v214,IntKind.wrap .i64 (v215+1),o216,o217,o218,())) (fun(_)=>none)) (n) (v164,v165,v166,v167,x183,o180.1.id,v169,v170,v171,v172,v173,v174,v175,v176,o178.1.edges,(o178.1.edges.length:Int),0,o177,o178,o179,o180,(x181,()),())))))) (fun(_)=>none)) (n) (v35,v36,v37,v38,true,v39,v40,v41,v42,v43,v44,v45,v46,v37,0,o47,o48,o49,(x50,()),()))
 else kx (v35,v36,v37,v39,v40,v41,v42,v43,o47,o48,o49,()))
def l0y{ρ:Type}(n:Nat)(rec:Int×Y21×Int×Int×Int×Y8×Int×Int×Y4×Y7×Y8×Unit→Option ρ)(kx:Int×Y21×Int×Int×Y4×Y7×Y8×Unit→Option ρ)(kr:Unit→Option ρ):Int×Y21×Int×Int×Int×Y8×Int×Int×Y4×Y7×Y8×Unit→Option ρ:=
 fun(v23,v24,v25,v26,v27,v28,v29,v30,o31,o32,o33,_)=>
 (bif decide ((v30:Int)<v29)then
 (ix v28 v30).bind fun x34=>
 a0a (fun rc232=>l0o n rc232 (fun(v221,v222,v223,v224,v225,v226,v227,v228,o229,o230,o231,_)=>rec (v221,v222,v223,v224,v225,v226,v227,IntKind.wrap .i64 (v228+1),o229,o230,o231,())) (fun(_)=>none)) (n) (v23,v24,v25,x34,v26,v27,v28,v29,v30,o32.1.nodes,(o32.1.nodes.length:Int),0,o31,o32,o33,())
 else kx (v23,v24,v26,v27,o31,o32,o33,()))
def h0n{ρ:Type}(n:Nat)(rec:Int×Y21×Y8×Int×Int×Y4×Y7×Unit→Option ρ)(kx:Int×Y8×Y4×Y7×Unit→Option ρ)(kr:Unit→Option ρ):Int×Y21×Y8×Int×Int×Y4×Y7×Unit→Option ρ:=
 fun(v16,v17,v18,v19,v20,o21,o22,_)=>
 (bif decide ((v20:Int)<v19)then
 a0a (fun rc240=>l0y n rc240 (fun(v233,v234,v235,v236,o237,o238,o239,_)=>rec (v233,v234,o239,v235,IntKind.wrap .i64 (v236+1),o237,o238,())) (fun(_)=>none)) (n) (v16,v17,v20,v19,v20,v18,(v18.length:Int),0,o21,o22,([]:List Y0),())
 else kx (v16,v18,o21,o22,()))
def f0g{ρ:Type}(n:Nat)(kr:Unit→Option ρ):Int→Int→(Int×Y8×Int×Int×Y4×Y7×Y8×Y0×Unit)→((Int×Y8×Int×Int×Y4×Y7×Y8×Y0×Unit)→Option ρ)→Option ρ:=
 fun v260 x265 (v254,v255,v256,v257,o261,o262,o263,o264,_) rec=>
 (bif (brem .i64 v260 2:Int)==0 then
 (ix o264 (bquo .i64 v260 2)).bind fun _=>
 ((o264)[(bquo .i64 v260 2:Int).toNat]?).bind fun e266=>rec (v254,v255,v256,v257,o261,o262,o263,(o264).set ((bquo .i64 v260 2:Int).toNat) x265,())
 else
 (ix o264 (IntKind.wrap .i64 (v254+(bquo .i64 v260 2)))).bind fun _=>
 ((o264)[(IntKind.wrap .i64 (v254+(bquo .i64 v260 2)):Int).toNat]?).bind fun e267=>rec (v254,v255,v256,v257,o261,o262,o263,(o264).set ((IntKind.wrap .i64 (v254+(bquo .i64 v260 2)):Int).toNat) x265,()))
def u0n{ρ:Type}(n:Nat)(rec:Int×Y8×Int×Int×Y0×Int×Int×Y4×Y7×Y8×Y0×Unit→Option ρ)(kx:Int×Y8×Int×Int×Y4×Y7×Y8×Y0×Unit→Option ρ)(kr:Unit→Option ρ):Int×Y8×Int×Int×Y0×Int×Int×Y4×Y7×Y8×Y0×Unit→Option ρ:=
 fun(v254,v255,v256,v257,v258,v259,v260,o261,o262,o263,o264,_)=>
 (bif decide ((v260:Int)<v259)then
 (ix v258 v260).bind fun x265=>f0g n kr v260 x265 (v254,v255,v256,v257,o261,o262,o263,o264,()) (fun(w0,w1,w2,w3,w7,w8,w9,w10,_)=>rec (w0,w1,w2,w3,v258,v259,IntKind.wrap .i64 (v260+1),w7,w8,w9,w10,()))
 else kx (v254,v255,v256,v257,o261,o262,o263,o264,()))
def h0w{ρ:Type}(n:Nat)(kr:Unit→Option ρ):Int→Ev.Term→Y38→(Y38→Option ρ)→Option ρ:=
 fun v284 x288 (v276,v277,v278,v279,v280,v281,o285,o286,o287,_) rec=>
 (bif v278 then
 (q49z n (o285.1,v277,())).bind fun(y289,_)=>
 (q24z n (o286.1,y289,(Ev.Term.mk x288.kind (Ev.Val.mk x288.v.kind x288.v.n x288.v.s x288.v.l) x288.name x288.a),())).bind fun(y290,_)=>
 (q52z ((Ev.Val.mk y290.kind y290.n y290.s y290.l),())).bind fun(y291,_)=>rec (v276,v277,(y291:Int)==1,v279,v280,v281,o285,o286,o287,())
 else rec (v276,v277,false,v279,v280,v281,o285,o286,o287,()))
def n0m{ρ:Type}(n:Nat)(rec:Int×Y0×Bool×Y8×Int×Int×Y25×Int×Int×Y4×Y7×Y8×Unit→Option ρ)(kx:Int×Y0×Bool×Y8×Int×Int×Y4×Y7×Y8×Unit→Option ρ)(kr:Unit→Option ρ):Int×Y0×Bool×Y8×Int×Int×Y25×Int×Int×Y4×Y7×Y8×Unit→Option ρ:=
 fun(v276,v277,v278,v279,v280,v281,v282,v283,v284,o285,o286,o287,_)=>
 (bif decide ((v284:Int)<v283)then
 (ix v282 v284).bind fun x288=>h0w n kr v284 x288 (v276,v277,v278,v279,v280,v281,o285,o286,o287,()) (fun(w0,w1,w2,w3,w4,w5,w9,w10,w11,_)=>rec (w0,w1,w2,w3,w4,w5,v282,v283,IntKind.wrap .i64 (v284+1),w9,w10,w11,()))
 else kx (v276,v277,v278,v279,v280,v281,o285,o286,o287,()))
def f0n{ρ:Type}(n:Nat)(rec:Int×Y8×Int×Int×Y4×Y7×Y8×Unit→Option ρ)(kx:Y8×Unit→Option ρ)(kr:Unit→Option ρ):Int×Y8×Int×Int×Y4×Y7×Y8×Unit→Option ρ:=
 fun(v245,v246,v247,v248,o249,o250,o251,_)=>
 (bif decide ((v248:Int)<v247)then
 (ix v246 v248).bind fun x252=>
 (cnt? (IntKind.wrap .i64 ((IntKind.wrap .i64 (2*v245)) - 1))).bind fun m253=>
 ck (room m253 8) (
 a0a (fun rc302=>u0n n rc302 (fun(v268,v269,v270,v271,o272,o273,o274,o275,_)=>
 a0a (fun rc301=>n0m n rc301 (fun(v292,v293,v294,v295,v296,v297,o298,o299,o300,_)=>
 (bif v294 then
 ck (room (o300++([v293]:List Y0)).length 24) (rec (v292,v295,v296,IntKind.wrap .i64 (v297+1),o298,o299,o300++([v293]:List Y0),()))
 else rec (v292,v295,v296,IntKind.wrap .i64 (v297+1),o298,o299,o300,()))) (fun(_)=>none)) (n) (v268,o275,true,v269,v270,v271,o272.1.wher,(o272.1.wher.length:Int),0,o272,o273,o274,())) (fun(_)=>none)) (n) (v245,v246,v247,v248,x252,(x252.length:Int),0,o249,o250,o251,(List.replicate m253 0),()))
 else kx (o251,()))
theorem p1a{ρ:Type}(n:Nat)(kx:Int×Y4×Y7×Y21×Unit→Option ρ)(kr:Unit→Option ρ)(l:List Ev.Arrow)(fuel:Nat)(v3:Int)(o7:Ev.Query×Unit)(o8:Ev.Graph×Unit)(o9:List Y3)(hl:l.length≤9223372036854775807)(hf:l.length<fuel):
  a0a (fun rc=>a1v n rc kx kr) fuel (v3,l,(l.length:Int),0,o7,o8,o9,())=a0c (k0m n kr) (fun(v3,o7,o8,o9,_)=>kx (v3,o7,o8,o9,())) 0 l (v3,o7,o8,o9,()):=
 a0d l (fun i (v3,o7,o8,o9,_)=>(v3,l,(l.length:Int),i,o7,o8,o9,())) _ _ _ (fun rec i s=>rfl) hl fuel (v3,o7,o8,o9,()) hf
theorem r0a{ρ:Type}(n:Nat)(kx:Int×Y21×Int×Y0×Int×Int×Y8×Int×Int×Y11×Int×Int×Y4×Y7×Y8×Unit→Option ρ)(kr:Unit→Option ρ)(l:List Ev.Edg)(fuel:Nat)(v105:Int)(v106:List Y3)(v107:Int)(v108:List Int)(v109:Int)(v110:Int)(v111:Int)(v112:Int)(v113:List Y0)(v114:Int)(v115:Int)(v116:List Ev.Node)(v117:Int)(v118:Int)(o122:Ev.Query×Unit)(o123:Ev.Graph×Unit)(o124:List Y0)(o125:Ev.Node×Unit)(o126:Ev.Arrow×Unit)(hl:l.length≤9223372036854775807)(hf:l.length<fuel):
  a0a (fun rc=>e0e n rc kx kr) fuel (v105,v106,v107,v108,v109,v110,v111,v112,v113,v114,v115,v116,v117,v118,l,(l.length:Int),0,o122,o123,o124,o125,o126,())=a0c (i0a n kr) (fun(v105,v106,v107,v108,v109,v110,v111,v112,v113,v114,v115,v116,v117,v118,o122,o123,o124,o125,o126,_)=>kx (v105,v106,v107,v108,v111,v112,v113,v114,v115,v116,v117,v118,o122,o123,o124,())) 0 l (v105,v106,v107,v108,v109,v110,v111,v112,v113,v114,v115,v116,v117,v118,o122,o123,o124,o125,o126,()):=
 a0d l (fun i (v105,v106,v107,v108,v109,v110,v111,v112,v113,v114,v115,v116,v117,v118,o122,o123,o124,o125,o126,_)=>(v105,v106,v107,v108,v109,v110,v111,v112,v113,v114,v115,v116,v117,v118,l,(l.length:Int),i,o122,o123,o124,o125,o126,())) _ _ _ (fun rec i s=>rfl) hl fuel (v105,v106,v107,v108,v109,v110,v111,v112,v113,v114,v115,v116,v117,v118,o122,o123,o124,o125,o126,()) hf
theorem h1y{ρ:Type}(n:Nat)(kx:Int×Y8×Int×Int×Y4×Y7×Y8×Y0×Unit→Option ρ)(kr:Unit→Option ρ)(l:List Int)(fuel:Nat)(v254:Int)(v255:List Y0)(v256:Int)(v257:Int)(o261:Ev.Query×Unit)(o262:Ev.Graph×Unit)(o263:List Y0)(o264:List Int)(hl:l.length≤9223372036854775807)(hf:l.length<fuel):
  a0a (fun rc=>u0n n rc kx kr) fuel (v254,v255,v256,v257,l,(l.length:Int),0,o261,o262,o263,o264,())=a0c (f0g n kr) (fun(v254,v255,v256,v257,o261,o262,o263,o264,_)=>kx (v254,v255,v256,v257,o261,o262,o263,o264,())) 0 l (v254,v255,v256,v257,o261,o262,o263,o264,()):=
 a0d l (fun i (v254,v255,v256,v257,o261,o262,o263,o264,_)=>(v254,v255,v256,v257,l,(l.length:Int),i,o261,o262,o263,o264,())) _ _ _ (fun rec i s=>rfl) hl fuel (v254,v255,v256,v257,o261,o262,o263,o264,()) hf
theorem i1s{ρ:Type}(n:Nat)(kx:Int×Y0×Bool×Y8×Int×Int×Y4×Y7×Y8×Unit→Option ρ)(kr:Unit→Option ρ)(l:List Ev.Term)(fuel:Nat)(v276:Int)(v277:List Int)(v278:Bool)(v279:List Y0)(v280:Int)(v281:Int)(o285:Ev.Query×Unit)(o286:Ev.Graph×Unit)(o287:List Y0)(hl:l.length≤9223372036854775807)(hf:l.length<fuel):
  a0a (fun rc=>n0m n rc kx kr) fuel (v276,v277,v278,v279,v280,v281,l,(l.length:Int),0,o285,o286,o287,())=a0c (h0w n kr) (fun(v276,v277,v278,v279,v280,v281,o285,o286,o287,_)=>kx (v276,v277,v278,v279,v280,v281,o285,o286,o287,())) 0 l (v276,v277,v278,v279,v280,v281,o285,o286,o287,()):=
 a0d l (fun i (v276,v277,v278,v279,v280,v281,o285,o286,o287,_)=>(v276,v277,v278,v279,v280,v281,l,(l.length:Int),i,o285,o286,o287,())) _ _ _ (fun rec i s=>rfl) hl fuel (v276,v277,v278,v279,v280,v281,o285,o286,o287,()) hf
def q59z(n:Nat):Ev.Query×Ev.Graph×Unit→Option (Y8×Bool×Unit):=
 fun(a1,a2,_)=>
 a0a (fun rc307=>a1v n rc307 (fun(v12,o13,o14,o15,_)=>
 a0a (fun rc306=>h0n n rc306 (fun(v241,v242,o243,o244,_)=>
 a0a (fun rc305=>f0n n rc305 (fun(o303,_)=>
 (sfLL (o303,())).bind fun(o304,_)=>some (o304,decide (((o304.length:Int):Int)≤2000),())) (fun(_)=>none)) (n) (v241,v242,(v242.length:Int),0,o243,o244,([]:List Y0),())) (fun(_)=>none)) (n) (v12,o15,([([]:List Int)]:List Y0),v12,0,o13,o14,())) (fun(_)=>none)) (n) ((a1.dots.length:Int),a1.arrows,(a1.arrows.length:Int),0,(a1,()),(a2,()),([]:List Y3),())
def q27z(n:Nat):Ev.Query×Ev.Graph×Unit→Option Y13:=
 fun(a1,a2,_)=>
 (d0g n (a1,a2,())).bind fun(y3,y4,_)=>
 (q21z n (a1,a2,())).bind fun(y5,_)=>
 (q33z n (())).bind fun(y6,_)=>
 (bif (!y6) || ((y5:Int) !=0)then
 (q33z n (())).bind fun(y7,_)=>some ((y7&& ((y4:Int)==y5))&& (((y3.length:Int):Int)==0),())
 else
 (q59z n (a1,a2,())).bind fun(y8,y9,_)=>
 (bif !y9 then some (((y4:Int)==10)&& (((y3.length:Int):Int)==0),())
 else
 (bif (y4:Int)==0 then
 (q3z n (y3,y8,())).bind fun(y10,_)=>some (y10,())
 else some (false,()))))
end Pure

import Derived.Test.YtnaeiccibhdknaaGreatDoorEvIdx
set_option linter.unusedSimpArgs false
set_option linter.unusedVariables false
namespace Esp
open Go
variable [Tabs]
def s0p:FnT:=⟨3,⟨[],[(0,.u64),(1,.u64),(2,.u64)],[],[]⟩,[.v .u64,.v .u64],[]⟩
def x0f:Int×Int×Int×Unit->Option (Int×Int×Unit):=λ(x,y,c,_)=>bif Nat.ble c.toNat 1 then some ((((x.toNat+y.toNat+c.toNat)%18446744073709551616:Nat):Int),(((x.toNat+y.toNat+c.toNat) / 18446744073709551616:Nat):Int),())else none
def w0l:Int×Int×Int×Unit->Option (Int×Int×Unit):=λ(x,y,c,_)=>bif Nat.ble c.toNat 1 then some ((((x.toNat+18446744073709551616 - y.toNat - c.toNat)%18446744073709551616:Nat):Int),((bif Nat.blt x.toNat (y.toNat+c.toNat)then 1 else 0:Nat):Int),())else none
omit [Tabs]in
theorem m1q{vs:Array Value}{a b c:Value}(hz:vs.size=3)(h0:vs.getD 0 undef=a)(h1:vs.getD 1 undef=b)(h2:vs.getD 2 undef=c):vs=#[a,b,c]:=by
 subst h0 h1 h2;apply Array.ext
 ·simpa using hz
 ·intro i h1 h2
  have:i=0\/i=1\/i=2:=by simp at h2;omega
  rcases this with rfl|rfl|rfl<;>simp[r2j,h1]
omit [Tabs]in
theorem d1e{P:Program}(nm:String)(x y c:Int)(w:World)(h:Nat.ble c.toNat 1=true):(Extern.MathBitsCarry.three nm #[.int .u64 x,.int .u64 y,.int .u64 c]).run P w=.ok (x.toNat,y.toNat,c.toNat) w:=by
 have h1:¬c.toNat>1:=by have:=r2u h;omega
 have e:Extern.MathBitsCarry.three nm #[.int .u64 x,.int .u64 y,.int .u64 c]=(do
   let c:=(<-asInt (.int .u64 c)).toNat
   if c > 1 then unsupported (.noEntry ("extern/math/bits." ++ nm ++ ": a carry that is neither 0 nor 1"))
   pure ((<-asInt (.int .u64 x)).toNat,(<-asInt (.int .u64 y)).toNat,c)):=rfl
 have ai:∀n:Int,(asInt (.int .u64 n)).run P w=.ok n w:=λn=>rfl;rw[e];simp[ai,Result.andThen,h1];omega
theorem i1i {P : Program} {f : FuncId} {fn : Func} {nf : Int × Int × Int × Unit → Option (Int × Int × Unit)} {g : Array Value → Sem Value} (hf : P.funcs[f]? = some fn) (cB : (fn.name == "runtime.NumGoroutine") = false) (hb : fn.body.isNone = true) (hn : Extern.findNext fn = none) (he : Extern.find fn = some g)
  (hg:∀x y c a b,nf (x,y,c,())=some (a,b,())-> ∀w,(g #[.int .u64 x,.int .u64 y,.int .u64 c]).run P w=.ok (.tuple #[.int .u64 a,.int .u64 b]) w):b0r P f s0p nf:=by
 rintro⟨x,y,c,u⟩ ⟨a,b,u2⟩ hy;refine⟨λF ρ vs w hrw hra=>⟨.tuple #[.int .u64 a,.int .u64 b],?_,?_⟩,rfl,rfl⟩
 ·have hz:vs.size=3:=hra.sz
  have h0:=(a0i (hra.rel 0 (by show 0<3;omega)) (u:=.int .u64 x) rfl).1;have h1:=(a0i (hra.rel 1 (by show 1<3;omega)) (u:=.int .u64 y) rfl).1;have h2:=(a0i (hra.rel 2 (by show 2<3;omega)) (u:=.int .u64 c) rfl).1;have e:=m1q hz h0 h1 h2;rw[e,run_callFunc_extern hf cB hb hn he,hg x y c a b hy w];rfl
 ·refine .tup _ _ rfl λi hi=>?_
  match i,hi with
  | 0,_=>exact .cell _ _ (.d _ _ (.sc _ rfl))
  | 1,_=>exact .cell _ _ (.d _ _ (.sc _ rfl))
theorem y0b {P : Program} {f : FuncId} {fn : Func} (hf : P.funcs[f]? = some fn) (cB : (fn.name == "runtime.NumGoroutine") = false) (hb : fn.body.isNone = true) (hn : Extern.findNext fn = none)
  (he:Extern.find fn=some (λargs=>do
   let (x, y, c) ← Extern.MathBitsCarry.three "Add64" args
   pure (Extern.MathBitsCarry.pair ((x+y+c)%Extern.MathBitsCarry.m64) ((x+y+c) / Extern.MathBitsCarry.m64)))):b0r P f s0p x0f:=by
 refine i1i hf cB hb hn he λx y c a b h w=>?_;unfold x0f at h;dsimp only at h;cases hc:Nat.ble c.toNat 1 with
 |false=>rw[hc]at h;cases h
 |true=>
  rw[hc]at h;cases h;simp[d1e _ x y c w hc,Result.andThen,Extern.MathBitsCarry.pair,Extern.MathBitsCarry.m64]
theorem y0o {P : Program} {f : FuncId} {fn : Func} (hf : P.funcs[f]? = some fn) (cB : (fn.name == "runtime.NumGoroutine") = false) (hb : fn.body.isNone = true) (hn : Extern.findNext fn = none)
  (he:Extern.find fn=some (λargs=>do
   let (x, y, b) ← Extern.MathBitsCarry.three "Sub64" args
   pure (Extern.MathBitsCarry.pair ((x+Extern.MathBitsCarry.m64 - y - b)%Extern.MathBitsCarry.m64) (if x<y+b then 1 else 0)))):b0r P f s0p w0l:=by
 refine i1i hf cB hb hn he λx y c a b h w=>?_;unfold w0l at h;dsimp only at h;cases hc:Nat.ble c.toNat 1 with
 |false=>rw[hc]at h;cases h
 |true=>
  rw[hc]at h;cases h;have h2:(if x.toNat<y.toNat+c.toNat then 1 else 0:Nat)=(bif Nat.blt x.toNat (y.toNat+c.toNat)then 1 else 0):=by
   cases hb:Nat.blt x.toNat (y.toNat+c.toNat)with
   |true=>rw[if_pos (a0e hb)];rfl
   |false=>rw[if_neg λh=>by rw[show Nat.blt x.toNat (y.toNat+c.toNat)=true from r2y h]at hb;cases hb];rfl
  simp[d1e _ x y c w hc,Result.andThen,Extern.MathBitsCarry.pair,Extern.MathBitsCarry.m64,h2]
end Esp

import Derived.Test.YtnaeiccibhdknaaGreatDoorSNext
set_option linter.unusedSimpArgs false
set_option linter.unusedVariables false
namespace Go.Proofs.YtnaeiccibhdknaaGreatDoor
open Go Esp
set_option maxHeartbeats 2000000
set_option maxRecDepth 100000
theorem nanI(i:Int)(W:World):Calls Tryz.prog 65 #[.int .i64 i] W λe w' =>e=.returned (.bool false)/\w' =W:=by
 go_enter Tryz.func65,Tryz.ntmps65
 go_wp2
 go_ret
 simp
theorem q2p(i j:Int)(W:World):Calls Tryz.prog 33 #[.int .i64 i,.int .i64 j] W λe w' =>e=.returned (.int .i64 (cmpI i j))/\w' =W:=by
 have h1:=nanI i W;have h2:=nanI j W;unfold cmpI;by_cases aJ:i<j
 ·go_enter Tryz.func33,Tryz.ntmps33
  go_wp2_with (first
   |(go_at_call 65;refine h1.mono ?_;rintro e w' ⟨rfl,rfl⟩)
   |(go_at_call 65;refine h2.mono ?_;rintro e w' ⟨rfl,rfl⟩))
  go_ret
  simp[aJ]
 ·by_cases lK:i>j
  ·go_enter Tryz.func33,Tryz.ntmps33
   go_wp2_with (first
    |(go_at_call 65;refine h1.mono ?_;rintro e w' ⟨rfl,rfl⟩)
    |(go_at_call 65;refine h2.mono ?_;rintro e w' ⟨rfl,rfl⟩))
   go_ret
   simp[aJ,lK]
  ·go_enter Tryz.func33,Tryz.ntmps33
   go_wp2_with (first
    |(go_at_call 65;refine h1.mono ?_;rintro e w' ⟨rfl,rfl⟩)
    |(go_at_call 65;refine h2.mono ?_;rintro e w' ⟨rfl,rfl⟩))
   go_ret
   simp[aJ,lK]
def iOfL(v:Value):Int:=match v with
 |.int _ i=>i
 |_=>0
theorem i2m(x y:List Int)(vx vy:Value)(W:World)(hx:RdI W x vx)(hy:RdI W y vy)(hlx:x.length<=1000000):Calls Tryz.prog 19 #[vx,vy] W λe w' =>e=.returned (.int .i64 (p0r x y))/\w' =W:=by
 obtain⟨px,cx,rfl,hx⟩:=hx;obtain⟨py,cy,rfl,hy⟩:=hy
 go_enter Tryz.func19,Tryz.ntmps19
 go_wp2
 go_loop [11] (λi=>∃k:Nat,k<=x.length/\i=.int .i64 k/\k<=y.length/\p0r (x.drop k) (y.drop k)=p0r x y)
  (λi=>x.length - (iOfL i).toNat)
 case atStart=>exact⟨0,s2i _,rfl,s2i _,rfl⟩
 case round=>
  obtain⟨k,hk,rfl,nN,hrel⟩:=hrel;by_cases k6:k<x.length
  ·obtain⟨bx,ox,rfl,lP⟩:=hx (by rintro rfl;exact absurd k6 (Nat.not_lt_zero _))
   have x0:=lP k k6;have ex:=s0n k6;by_cases fL:k<y.length
   ·obtain⟨by_,oy,rfl,oq⟩:=hy (by rintro rfl;exact absurd fL (Nat.not_lt_zero _))
    have y0:=oq k fL;have ey:=s0n fL;rw[ex,ey]at hrel;have c0:=q2p x[k] y[k] W;clear ex ey lP oq hx hy;generalize x[k]=a at*;generalize y[k]=b at*;by_cases hz:cmpI a b=0
    ·obtain rfl:=cmpI_0.1 hz
     rw[hz]at c0;rw[m1k]at hrel
     go_wp2_with (go_at_call 33;refine c0.mono ?_;rintro e w' ⟨rfl,rfl⟩)
     go_round
     case rel=>exact⟨k+1,by omega,by go_num,by omega,hrel⟩
     case measure=>simp[iOfL];omega
    ·have aS:(cmpI a b !=0)=true:=by simpa using hz
     rw[p0r,if_pos hz]at hrel;generalize cmpI a b=c at*
     go_wp2_with (go_at_call 33;refine c0.mono ?_;rintro e w' ⟨rfl,rfl⟩)
     go_ret
     exact⟨rfl,rfl⟩
   ·have ey:y.drop k=[]:=List.drop_eq_nil_of_le (by omega)
    rw[ex,ey]at hrel;clear ex lP hx hy
    go_wp2
    go_ret
    rw [<-hrel];exact⟨rfl,rfl⟩
  ·obtain rfl:k=x.length:=by omega
   have ex:x.drop x.length=[]:=List.drop_length;rw[ex]at hrel;by_cases fL:x.length<y.length
   ·have ey:=s0n fL
    rw[ey]at hrel
    go_wp2
    go_ret
    rw [<-hrel];exact⟨rfl,rfl⟩
   ·have ey:y.drop x.length=[]:=List.drop_eq_nil_of_le (by omega)
    rw[ey]at hrel;clear ex ey hx hy
    go_wp2
    go_ret
    rw [<-hrel];exact⟨rfl,rfl⟩
end Go.Proofs.YtnaeiccibhdknaaGreatDoor

import Derived.Test.YtcloicgnanjbcaaGreatDoorProg
import Derived.WalkKit
import Derived.KernelRfl
import Derived.Test.YtcloicgnanjbcaaGreatDoorEvSortL
namespace Go.Proofs.YtcloicgnanjbcaaGreatDoor
open Go Esp
set_option linter.unusedSimpArgs false
set_option linter.unusedVariables false
set_option maxHeartbeats 2000000
set_option maxRecDepth 100000
theorem nanI(i:Int)(W:World):Calls Tryz.prog 66 #[.int .i64 i] W fun e w' =>e= .returned (.bool false)∧w' =W:=by
 go_enter Tryz.func66,Tryz.ntmps66
 go_wp2
 go_ret
 simp
theorem i2n(i j:Int)(W:World):Calls Tryz.prog 31 #[.int .i64 i, .int .i64 j] W fun e w' =>e= .returned (.int .i64 (cmpI i j))∧w' =W:=by
 have h1:=nanI i W;have h2:=nanI j W;unfold cmpI;by_cases hlt:i<j
 ·go_enter Tryz.func31,Tryz.ntmps31
  go_wp2_with (first
   | (go_at_call 66;refine h1.mono ?_;rintro e w' ⟨rfl,rfl⟩)
   | (go_at_call 66;refine h2.mono ?_;rintro e w' ⟨rfl,rfl⟩))
  go_ret
  simp [hlt]
 ·by_cases hgt:i>j
  ·go_enter Tryz.func31,Tryz.ntmps31
   go_wp2_with (first
    | (go_at_call 66;refine h1.mono ?_;rintro e w' ⟨rfl,rfl⟩)
    | (go_at_call 66;refine h2.mono ?_;rintro e w' ⟨rfl,rfl⟩))
   go_ret
   simp [hlt,hgt]
  ·go_enter Tryz.func31,Tryz.ntmps31
   go_wp2_with (first
    | (go_at_call 66;refine h1.mono ?_;rintro e w' ⟨rfl,rfl⟩)
    | (go_at_call 66;refine h2.mono ?_;rintro e w' ⟨rfl,rfl⟩))
   go_ret
   simp [hlt,hgt]
def iOfL(v:Value):Int:=match v with
 | .int _ i=>i
 | _=>0
theorem z1d(x y:List Int)(vx vy:Value)(W:World)(hx:RdI W x vx)(hy:RdI W y vy)(hlx:x.length≤1000000):Calls Tryz.prog 9 #[vx,vy] W fun e w' =>e= .returned (.int .i64 (n0d x y))∧w' =W:=by
 obtain⟨px,cx,rfl,hx⟩:=hx;obtain⟨py,cy,rfl,hy⟩:=hy
 go_enter Tryz.func9,Tryz.ntmps9
 go_wp2
 go_loop [11] (fun i=>∃k:Nat,k≤x.length∧i= .int .i64 k∧k≤y.length∧n0d (x.drop k) (y.drop k)=n0d x y)
  (fun i=>x.length - (iOfL i).toNat)
 case atStart=>exact⟨0,k2o _,rfl,k2o _,rfl⟩
 case round=>
  obtain⟨k,hk,rfl,hky,hrel⟩:=hrel;by_cases hkx:k<x.length
  ·obtain⟨bx,ox,rfl,hcx⟩:=hx (by rintro rfl;exact absurd hkx (Nat.not_lt_zero _))
   have x0:=hcx k hkx;have ex:=q0c hkx;by_cases hkn:k<y.length
   ·obtain⟨by_,oy,rfl,hcy⟩:=hy (by rintro rfl;exact absurd hkn (Nat.not_lt_zero _))
    have y0:=hcy k hkn;have ey:=q0c hkn;rw [ex,ey]at hrel;have c0:=i2n x[k] y[k] W;clear ex ey hcx hcy hx hy;generalize x[k]=a at*;generalize y[k]=b at*;by_cases hz:cmpI a b=0
    ·obtain rfl:=cmpI_0.1 hz
     rw [hz]at c0;rw [g1t]at hrel
     go_wp2_with (go_at_call 31;refine c0.mono ?_;rintro e w' ⟨rfl,rfl⟩)
     go_round
     case rel=>exact⟨k+1,by omega,by go_num,by omega,hrel⟩
     case measure=>simp [iOfL];omega
    ·have hne:(cmpI a b !=0)=true:=by simpa using hz
     rw [n0d,if_pos hz]at hrel;generalize cmpI a b=c at*
     go_wp2_with (go_at_call 31;refine c0.mono ?_;rintro e w' ⟨rfl,rfl⟩)
     go_ret
     exact⟨rfl,rfl⟩
   ·have ey:y.drop k= []:=m2k (by omega)
    rw [ex,ey]at hrel;clear ex hcx hx hy
    go_wp2
    go_ret
    rw [←hrel];exact⟨rfl,rfl⟩
  ·obtain rfl:k=x.length:=by omega
   have ex:x.drop x.length= []:=List.drop_length;rw [ex]at hrel;by_cases hkn:x.length<y.length
   ·have ey:=q0c hkn
    rw [ey]at hrel
    go_wp2
    go_ret
    rw [←hrel];exact⟨rfl,rfl⟩
   ·have ey:y.drop x.length= []:=m2k (by omega)
    rw [ey]at hrel;clear ex ey hx hy
    go_wp2
    go_ret
    rw [←hrel];exact⟨rfl,rfl⟩
end Go.Proofs.YtcloicgnanjbcaaGreatDoor

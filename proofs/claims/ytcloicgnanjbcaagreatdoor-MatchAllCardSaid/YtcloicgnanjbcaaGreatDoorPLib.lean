import Derived.Test.YtcloicgnanjbcaaGreatDoorPBase
namespace Pure
open Esp Ev Go
set_option linter.unusedSimpArgs false
set_option linter.unusedVariables false
theorem a0h{x:Int}(h0: -9223372036854775808≤x)(h1:x≤9223372036854775807):IntKind.wrap .i64 x=x:=by
 simp only [IntKind.wrap,IntKind.bits,IntKind.signed];simp;omega
theorem b0u{x:Int}(h0:0≤x)(h1:x≤18446744073709551615):IntKind.wrap .u64 x=x:=by
 simp only [IntKind.wrap,IntKind.bits,IntKind.signed];simp;omega
theorem a0k{α:Type}{l:List α}{i:Nat}{x:α}(h:l[i]? =some x):ix l (i:Int)=some x:=by
 unfold ix;rw [if_pos (by omega)];exact h
def bi(l:List UInt8):List Int:=l.map fun c=>(c.toNat:Int)
theorem o1d(l:List UInt8):(bi l).length=l.length:=by simp [bi]
theorem t0l(c:UInt8)(l:List UInt8):bi (c::l)=(c.toNat:Int)::bi l:=rfl
theorem d0h{ρ:Type}{b:Bool}{k:Option ρ}(h:b=true):ck b k=k:=by subst h;rfl
end Pure

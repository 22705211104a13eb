import Derived.Test.YtnaeiccibhdknaaGreatDoorPBase
set_option linter.unusedSimpArgs false
set_option linter.unusedVariables false
namespace Pure
open Esp Ev Go
abbrev wI(x:Int):Int:=IntKind.wrap .i64 x
theorem a0f{x:Int}(h0: -9223372036854775808<=x)(h1:x<=9223372036854775807):wI x=x:=by
 simp only[wI,IntKind.wrap,IntKind.bits,IntKind.signed];simp;omega
theorem n0o{x:Int}(h0:0<=x)(h1:x<=18446744073709551615):IntKind.wrap .u64 x=x:=by
 simp only[wI,IntKind.wrap,IntKind.bits,IntKind.signed];simp;omega
theorem q2a{x:Int}(h0:0<=x)(h1:x<=255):IntKind.wrap .u8 x=x:=by
 simp only[wI,IntKind.wrap,IntKind.bits,IntKind.signed];simp;omega
theorem a0r{α:Type}{l:List α}{i:Nat}{x:α}(h:l[i]?=some x):ix l (i:Int)=some x:=by
 unfold ix;rw[if_pos (by omega)];exact h
def bi(l:List UInt8):List Int:=l.map λc=>(c.toNat:Int)
theorem w1f(s:Bt):d0d s=bi s.data.toList:=rfl
theorem o1z(l m:List UInt8):bi (l++m)=bi l++bi m:=by simp[bi]
theorem d0o(l:List UInt8):(bi l).length=l.length:=by simp[bi]
theorem k2v:bi []=[]:=rfl
theorem w0p(c:UInt8)(l:List UInt8):bi (c::l)=(c.toNat:Int)::bi l:=rfl
theorem l1s(l:List UInt8):k0z (bi l)=true:=by
 induction l with
 |nil=>rfl
 |cons c r ih=>
  have:=c.toNat_lt;rw[w0p,k0z,ih,Bool.and_true,decide_eq_true_eq];omega
theorem i2q(l:List UInt8):strI (bi l)=⟨l.toArray⟩:=by
 unfold strI;have:(bi l).map (λn=>UInt8.ofNat n.toNat)=l:=by
  induction l with
  |nil=>rfl
  |cons c r ih=>rw[w0p,r2z,ih];simp
 rw[this]
theorem l2m(l:List UInt8):str? (bi l)=some ⟨l.toArray⟩:=by
 unfold str?;rw[if_pos (l1s l),i2q]
theorem c1u{n:Nat}(h:n<=140737488355328):room n 1=true:=by
 unfold room;rw[r2i];exact⟨r2y (by omega),r2y (by omega)⟩
theorem b0v{ρ:Type}{b:Bool}{k:Option ρ}(h:b=true):ck b k=k:=by subst h;rfl
def c1b(n:Int)(k:Int):UInt8:=UInt8.ofNat (IntKind.wrap .u8 (bshr .u64 n k)).toNat
def numB(n:Int):Nat->List UInt8
 | 0=>[]
 |s+1=>c1b n (8*(s:Int))::numB n s
theorem x0z(e:Int):0<=IntKind.wrap .u8 e/\IntKind.wrap .u8 e<256:=by
 simp only[wI,IntKind.wrap,IntKind.bits,IntKind.signed];constructor<;>simp<;>omega
theorem s1g(n k:Int):IntKind.wrap .u8 (bshr .u64 n k)=((c1b n k).toNat:Int):=by
 have h:=x0z (bshr .u64 n k);unfold c1b;rw[UInt8.toNat_ofNat_of_lt' (by show _<256;omega)];omega
theorem c0w(n:Int)(s:Nat):(numB n s).length=s:=by
 induction s with
 |zero=>rfl
 |succ s ih=>simp[numB,ih]
theorem p1x(x:Nat)(h:x<2 ^ 63):x ^^^ 2 ^ 63=2 ^ 63+x:=by
 apply Nat.eq_of_testBit_eq;intro i;rw[Nat.testBit_xor,Nat.testBit_two_pow];by_cases h1:i=63
 ·subst h1
  rw[Nat.testBit_two_pow_add_eq,Nat.testBit_lt_two_pow h];rfl
 ·by_cases h2:i<63
  ·rw[Nat.testBit_two_pow_add_gt h2]
   simp[Ne.symm h1]
  ·have h3:2 ^ 64<=2 ^ i:=Nat.pow_le_pow_right (by decide) (by omega)
   rw[Nat.testBit_lt_two_pow (show x<2 ^ i by omega),Nat.testBit_lt_two_pow (show 2 ^ 63+x<2 ^ i by omega)];simp[Ne.symm h1]
theorem z1j(x:Nat)(h:x<2 ^ 63):(2 ^ 63+x) ^^^ 2 ^ 63=x:=by
 rw [<-p1x x h,Nat.xor_assoc,Nat.xor_self,Nat.xor_zero]
theorem j1r(x:Nat)(hx:x<2 ^ 64):bxor .u64 (x:Int) 9223372036854775808=if x<2 ^ 63 then(x:Int)+9223372036854775808 else(x:Int) - 9223372036854775808:=by
 have e1:(BitVec.ofInt 64 9223372036854775808).toNat=2 ^ 63:=by decide
 have e2:(BitVec.ofInt 64 (x:Int)).toNat=x:=by
  rw[BitVec.ofInt_natCast,BitVec.toNat_ofNat,Nat.mod_eq_of_lt hx]
 unfold bxor;show IntKind.wrap .u64 (((BitVec.ofInt 64 (x:Int) ^^^ BitVec.ofInt 64 9223372036854775808:BitVec 64)).toNat:Int)=_;rw[BitVec.toNat_xor,e2,e1];by_cases hc:x<2 ^ 63
 ·rw[p1x x hc,if_pos hc,n0o (by omega) (by omega)]
  omega
 ·obtain⟨y,rfl⟩:∃y,x=2 ^ 63+y:=⟨x - 2 ^ 63,by omega⟩
  rw[z1j y (by omega),if_neg hc,n0o (by omega) (by omega)];omega
theorem d1y{n:Int}(h0: -9223372036854775808<=n)(h1:n<0):IntKind.wrap .u64 n=n+18446744073709551616:=by
 simp only[wI,IntKind.wrap,IntKind.bits,IntKind.signed];simp;omega
theorem i1m(n:Int)(h0: -9223372036854775808<=n)(h1:n<=9223372036854775807):bxor .u64 (IntKind.wrap .u64 n) 9223372036854775808=n+9223372036854775808:=by
 by_cases hn:0<=n
 ·obtain⟨x,rfl⟩:∃x:Nat,n=x:=⟨n.toNat,by omega⟩
  rw[n0o (by omega) (by omega),j1r x (by omega),if_pos (by omega)]
 ·rw[d1y h0 (by omega)]
  obtain⟨x,hx⟩:∃x:Nat,n+18446744073709551616=x:=⟨(n+18446744073709551616).toNat,by omega⟩;rw[hx,j1r x (by omega),if_neg (by omega)];omega
end Pure

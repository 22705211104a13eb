import Derived.Test.YtnaeiccibhdknaaGreatDoorEvLib
import Derived.Lib.Bytealg
set_option linter.unusedSimpArgs false
set_option linter.unusedVariables false
namespace Esp
open Go
variable [Tabs]
def e2l:FnT:=⟨2,⟨[],[(0,.str),(1,.u8)],[],[]⟩,[.v .i64],[]⟩
def idxN:Bt×Int×Unit->Option (Int×Unit):=λ(s,c,_)=>some (Lib.indexByte s.data.toList c.toNat.toUInt8,())
theorem f2g {P : Program} {f : FuncId} {fn : Func} (hf : P.funcs[f]? = some fn) (cB : (fn.name == "runtime.NumGoroutine") = false) (hb : fn.body.isNone = true) (hn : Extern.findNext fn = none) (he : Extern.find fn = some Extern.BytealgIndexByte.indexByte) :
  b0r P f e2l idxN:=by
 rintro⟨a,b,u⟩ y hy;cases hy;refine⟨λF ρ vs w hrw hra=>⟨.int .i64 (Lib.indexByte a.data.toList b.toNat.toUInt8),?_,.cell _ _ (.d _ _ (.sc _ rfl))⟩,rfl,rfl⟩;have hz:vs.size=2:=hra.sz;have h0:=(a0i (hra.rel 0 (by show 0<2;omega)) (u:=.string a) rfl).1;have h1:=(a0i (hra.rel 1 (by show 1<2;omega)) (u:=.int .u8 b) rfl).1;have e:vs=#[vs.getD 0 undef,vs.getD 1 undef]:=by
  apply Array.ext
  ·simpa using hz
  ·intro i h1 h2
   have:i=0\/i=1:=by simp at h2;omega
   rcases this with rfl|rfl<;>simp[r2j,h1]
 rw[h0,h1]at e;rw[e,run_callFunc_extern hf cB hb hn he,Lib.run_indexByteString];rfl
end Esp

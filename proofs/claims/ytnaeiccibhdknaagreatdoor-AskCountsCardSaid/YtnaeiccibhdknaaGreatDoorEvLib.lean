import Derived.Test.YtnaeiccibhdknaaGreatDoorEvRise2
import Derived.Lib.BytesEntry
import Derived.Laws.Externs
set_option linter.unusedSimpArgs false
set_option linter.unusedVariables false
noncomputable section
namespace Esp
open Go
variable [Tabs]
def p0e(xs:List Int):Bt:=⟨(Lib.bytesOf xs).toArray⟩
def e2e:FnT:=⟨2,⟨[],[(0,.lst .u8),(1,.lst .u8)],[],[]⟩,[.v .i64],[]⟩
def cmpB(a b:List Int):Int:=Extern.BytealgCompare.cmp (p0e a) (p0e b)
def cmpN:List Int×List Int×Unit->Option (Int×Unit):=λ(a,b,_)=>some (cmpB a b,())
omit [Tabs]in
theorem r0q{P:Program}{w:World}{F:Nat->Prop}{xs:List Int}{v:Value}(h:RelD w F (.nl .u8 xs) v):(Extern.Bytes.bytesOf v).run P w=.ok (p0e xs) w:=by
 cases h with
 |nl t xs v h=>
  have bS:flat .u8 xs=xs.map λn=>.sc (.int .u8 n):=by
   clear h;simp only[flat]
   induction xs with
   |nil=>rfl
   |cons x r ih=>simp only[s2o,ih,r2z];rfl
  generalize bE:flat .u8 xs=cs at h;generalize hn:xs.length=n at h;cases h with
  |nil e a cap=>
   have:xs=[]:=s2f hn;subst this;cases a with
   |none=>rfl
   |some a=>simp only[Extern.Bytes.bytesOf];rfl
  |sl e n cs b off cap c hF hl aU hc hr=>
   have bU:cs.length=xs.length:=by rw [<-bE,bS,s2k]
   have:=Lib.run_loadBytesX (P:=P) w xs ⟨b,off,none⟩ .empty (λj x hj=>by
    have gp:=(r2p.1 hj).1;rw[Addr.add_lit,hc j (by omega)];have h2:=hr j (by omega);have h3:cs[j]'(by omega)=.sc (.int .u8 x):=by
     have:cs[j]?=some (.sc (.int .u8 x)):=by rw [<-bE,bS,t2a,hj];rfl
     exact(r2p.1 this).2
    rw[h3]at h2;generalize c j=u at h2;cases h2;rfl)
   rw[hn]at this;simp only[Extern.Bytes.bytesOf];rw[this];congr 1;simp[p0e]
theorem g2o {P : Program} {f : FuncId} {fn : Func} (hf : P.funcs[f]? = some fn) (cB : (fn.name == "runtime.NumGoroutine") = false) (hb : fn.body.isNone = true) (hn : Extern.findNext fn = none) (he : Extern.find fn = some Extern.BytealgCompare.compare) :
  b0r P f e2e cmpN:=by
 rintro⟨a,b,u⟩ y hy;cases hy;refine⟨λF ρ vs w hrw hra=>⟨.int .i64 (cmpB a b),?_,.cell _ _ (.d _ _ (.sc _ rfl))⟩,rfl,rfl⟩;have hz:vs.size=2:=hra.sz;have h0:=a0w (x:=.nl .u8 a) (hra.rel 0 (by show 0<2;omega));have h1:=a0w (x:=.nl .u8 b) (hra.rel 1 (by show 1<2;omega));have e:vs=#[vs.getD 0 undef,vs.getD 1 undef]:=by
  apply Array.ext
  ·simpa using hz
  ·intro i h1 h2
   have:i=0\/i=1:=by simp at h2;omega
   rcases this with rfl|rfl<;>simp[r2j,h1]
 generalize vs.getD 0 undef=v0 at h0 e;generalize vs.getD 1 undef=v1 at h1 e;rw[e,run_callFunc_extern hf cB hb hn he];have e2:(Extern.BytealgCompare.compare #[v0,v1]).run P w=.ok (goInt (Extern.BytealgCompare.cmp (p0e a) (p0e b))) w:=by
  show((do pure (goInt (Extern.BytealgCompare.cmp (<-Extern.Bytes.bytesOf v0) (<-Extern.Bytes.bytesOf v1))):Sem Value)).run P w=_
  simp only[Sem.run_bind,r0q h0,r0q h1,Result.andThen_ok,Sem.run_pure]
 rw[e2];rfl
end Esp

import Derived.Test.YtnaeiccibhdknaaGreatDoorEvAv
import Derived.Maps.Keyed
set_option linter.unusedSimpArgs false
set_option linter.unusedVariables false
namespace Esp
open Go Go.ChangeShapes
variable [Tabs]
def b0x:Ev.Ty->Bool
 |.i64|.u8|.u32|.u64|.i32|.bool|.str|.pair=>true
 |_=>false
def keyT:Ev.Ty->TypeDesc->Bool
 |.i64,.int .i64=>true|.u8,.int .u8=>true|.u32,.int .u32=>true|.u64,.int .u64=>true|.i32,.int .i32=>true
 |.bool,.bool=>true|.str,.string=>true
 |_,_=>false
def r0c(P:Program):TypeDesc->Bool
 |.array n e=>Nat.beq n 2&&match P.underlying e with
  |some d=>keyT .i64 d&&match d0t P e with
   |some s=>Nat.beq s 1
   |none=>false
  |none=>false
 |_=>false
def keyA(P:Program)(a:TypeId)(kt:Ev.Ty):Bool:=
 match P.underlying a with
 |some d=>match kt with
  |.pair=>r0c P d
  |kt=>keyT kt d
 |none=>false
def q1f(kt vt:Ev.Ty)(l:List (kt.den×vt.den))(j:Int)(v:vt.den):Option (List (kt.den×vt.den)):=
 if 0<=j then match l[j.toNat]? with
  |some p=>some (l.set j.toNat (p.1,v))
  |none=>none
 else none
def u1j(kt vt:Ev.Ty):List (kt.den×vt.den)->kt.den->List (kt.den×vt.den)
 |[],_=>[]
 |p::r,k=>bif b0l kt k p.1 then r else p::u1j kt vt r k
omit [Tabs]in
theorem e0m{w:World}{F:Nat->Prop}{τ:Ev.Ty}(hτ:b0x τ=true){x:τ.den}{v:Value}(h:RelE w F τ x v):v=keyV τ x:=by
 have sc:∀{u v:Value},RelD w F (.sc u) v->v=u:=λh=>by cases h;rfl
 cases τ<;>first
  |(cases hτ;done)
  |(unfold RelE at h
    rw[if_pos (by rfl)]at h;obtain⟨c,h1,h2⟩:=h;simp only[cells,c0k,iC,bC,sC,List.cons.injEq,and_true]at h1;subst h1;exact sc h2)
  |(unfold RelE at h
    rw[if_neg (by decide)]at h;obtain⟨arr,rfl,h2,h3⟩:=h;have e0:=sc (h3 0 (by simp[cells,c0k]));have e1:=sc (h3 1 (by simp[cells,c0k]));simp only[keyV];congr 1;apply Array.ext
    ·simpa[cells,c0k]using h2
    ·intro i h4 h5
     simp only[cells,c0k,r2w,List.length_nil]at h2
     match i,h5 with
     | 0,_=>simpa[Array.getD,h4]using e0
     | 1,_=>simpa[Array.getD,h4]using e1)
omit [Tabs]in
theorem x0v{w:World}{F:Nat->Prop}{τ:Ev.Ty}(hτ:b0x τ=true)(x:τ.den):RelE w F τ x (keyV τ x):=by
 cases τ<;>first
  |(cases hτ;done)
  |(unfold RelE
    rw[if_pos (by rfl)];exact⟨_,rfl,.sc _ rfl⟩)
  |(unfold RelE
    rw[if_neg (by decide)];refine⟨_,rfl,rfl,λi hi=>?_⟩
    match i,hi with
    | 0,_=>exact .sc _ rfl
    | 1,_=>exact .sc _ rfl)
omit [Tabs]in
theorem g1r{τ:Ev.Ty}{d:TypeDesc}(hd:keyT τ d=true)(a b:τ.den):Instr.sameNow d (keyV τ a) (keyV τ b)=some (b0l τ a b):=by
 unfold keyT at hd;split at hd<;>first|(cases hd;done)| rfl|simp[Instr.sameNow,keyV,b0l]
def fndI(kt vt:Ev.Ty)(k:kt.den):List MapEntry->List (kt.den×vt.den)->Nat->Option (Nat×Value)
 |e::es,p::l,i=>bif b0l kt k p.1 then some (i,e.val)else fndI kt vt k es l (i+1)
 |_,_,_=>none
omit [Tabs]in
theorem u0v{kt vt:Ev.Ty}{d:TypeDesc}(hd:keyT kt d=true)(k:kt.den):∀(es:List MapEntry) (l:List (kt.den×vt.den)) (i:Nat),es.map (·.key)=l.map (λp=>keyV kt p.1)->
  Instr.findNow d (keyV kt k) es i=some (fndI kt vt k es l i)
 |[],[],i,_=>rfl
 |[],p::l,i,h=>by simp at h
 |e::es,[],i,h=>by simp at h
 |e::es,p::l,i,h=>by
  simp only[r2z,List.cons.injEq]at h;rw[Instr.findNow,h.1,g1r hd,fndI];cases b0l kt k p.1 with
  |true=>rfl
  |false=>exact u0v hd k es l (i+1) h.2
omit [Tabs]in
theorem j0u{kt vt:Ev.Ty}(z:vt.den)(k:kt.den)(R:vt.den->Value->Prop):∀(es:List MapEntry) (l:List (kt.den×vt.den)) (i:Nat),es.length=l.length->(∀j (h:j<l.length) (h' :j<es.length),R l[j].2 es[j].val)->
  (f0a kt vt l k=false/\fndI kt vt k es l i=none/\a0k kt vt z l k=z/\a0q kt vt l k=l.length)\/(f0a kt vt l k=true/\∃v,fndI kt vt k es l i=some (i+a0q kt vt l k,v)/\R (a0k kt vt z l k) v/\a0q kt vt l k<l.length)
 |[],[],i,_,_=>.inl ⟨rfl,rfl,rfl,rfl⟩
 |[],_::_,_,h,_=>by simp at h
 |_::_,[],_,h,_=>by simp at h
 |e::es,p::l,i,h,hR=>by
  rw[f0a,a0k,fndI,a0q];cases b0l kt k p.1 with
  |true=>exact .inr ⟨rfl,e.val,rfl,hR 0 (by simp) (by simp),by simp⟩
  |false=>
   rcases j0u z k R es l (i+1) (by simpa using h) λj h1 h2=>hR (j+1) (by simpa using h1) (by simpa using h2)with⟨a1,a2,a3,a4⟩| ⟨a1,v,a2,a3,a4⟩
   ·exact .inl ⟨a1,a2,a3,by simp[a4]⟩
   ·exact .inr ⟨a1,v,by rw[u2k,u2k,a2];congr 2;omega,a3,by simpa using a4⟩
section
variable{P:Program}{N:Nat}{st:ASt}
omit [Tabs]in
theorem g2e{d:TypeDesc}(h:r0c P d=true):∃e,d=.array 2 e/\P.underlying e=some (.int .i64)/\d0t P e=some 1:=by
 unfold r0c at h;split at h
 ·rename_i n e
  rw[r2i]at h;obtain⟨h1,h2⟩:=h;split at h2
  ·rename_i d' gS
   rw[r2i]at h2;obtain⟨h2,h3⟩:=h2;split at h3
   ·rename_i s hs
    refine⟨e,by rw[r2h h1],?_,by rw[hs,r2h h3]⟩;rw[gS];cases d' with
    |int k=>cases k<;>first|rfl|(cases h2;done)
    |_=>cases h2
   ·cases h3
  ·cases h2
 ·cases h
omit [Tabs]in
theorem p0m{w:World}{e:TypeId}(he:P.underlying e=some (.int .i64))(em:Bool)(n:Nat)(x:Int):(Instr.checkKey em (n+1) e (.int .i64 x)).run P w=.ok () w:=by
 rw[Instr.checkKey];simp[run_underlying he,Result.andThen]
omit [Tabs]in
theorem h1b{w:World}{e:TypeId}(he:P.underlying e=some (.int .i64))(n:Nat)(x y:Int):(Op.equalIn (n+1) e (.int .i64 x) (.int .i64 y)).run P w=.ok (x==y) w:=by
 simp[Op.equalIn,run_underlying he]
omit [Tabs]in
theorem b0i{w:World}{kt:Ev.Ty}{t:TypeId}(ht:keyA P t kt=true)(em:Bool)(k:kt.den):(Instr.checkKey em 10000 t (keyV kt k)).run P w=.ok () w:=by
 unfold keyA at ht;split at ht
 ·rename_i d hu
  split at ht
  ·rename_i kt'
   obtain⟨e,rfl,he,hs⟩:=g2e ht;have ha:i0b P e=some false:=by simp[i0b,he]
   rw[show(10000:Nat)=9998+1+1 from rfl,Instr.checkKey]
   have h0:=g0c (P:=P) (arr:=#[.int .i64 k.p,.int .i64 k.q]) (o:=0) ha (by simp) w;have h1:=g0c (P:=P) (arr:=#[.int .i64 k.p,.int .i64 k.q]) (o:=1) ha (by simp) w;have c0:=p0m (w:=w) he em 9998 k.p;have c1:=p0m (w:=w) he em 9998 k.q;simp only[Array.getD]at h0 h1;simp[run_underlying hu,keyV,Result.andThen,Std.Legacy.Range.forIn_eq_forIn_range',Std.Legacy.Range.size,List.range',a0g hs,h0,h1,c0,c1]
  ·rename_i aS
   unfold keyT at ht;rw[show(10000:Nat)=9999+1 from rfl,Instr.checkKey]
   split at ht<;>first|(cases ht;done)| (simp[run_underlying hu,keyV,Result.andThen])
 ·cases ht
omit [Tabs]in
theorem u0g{w:World}{t e:TypeId}(hu:P.underlying t=some (.array 2 e))(he:P.underlying e=some (.int .i64))(hs:d0t P e=some 1)(a b:Ev.Pair):
  (Op.equal t (keyV .pair a) (keyV .pair b)).run P w=.ok (b0l .pair a b) w:=by
 have ha:i0b P e=some false:=by simp[i0b,he]
 have h0:∀x y:Int,(part e #[.int .i64 x,.int .i64 y] 0).run P w=.ok (.int .i64 x) w:=λx y=>g0c (P:=P) (arr:=#[.int .i64 x,.int .i64 y]) (o:=0) ha (by simp) w;have h1:∀x y:Int,(part e #[.int .i64 x,.int .i64 y] 1).run P w=.ok (.int .i64 y) w:=λx y=>g0c (P:=P) (arr:=#[.int .i64 x,.int .i64 y]) (o:=1) ha (by simp) w;have q:∀x y,(Op.equalIn 9999 e (.int .i64 x) (.int .i64 y)).run P w=.ok (x==y) w:=λx y=>h1b he 9998 x y;rw[Op.equal,Op.maxDepth,show(10000:Nat)=9999+1 from rfl,Op.equalIn]
 simp only[keyV,b0l,Sem.run_bind,run_underlying hu,Result.andThen,a0g hs];simp only[Std.Legacy.Range.forIn_eq_forIn_range',Std.Legacy.Range.size,List.range',List.forIn_cons,List.forIn_nil,Sem.run_bind,Nat.reduceMul,Nat.reduceAdd,h0,h1,q,Result.andThen];cases hp:(a.p==b.p)<;>cases hq:(a.q==b.q)<;>simp[h1,q,Result.andThen,hp,hq]
omit [Tabs]in
theorem j0h{w:World}{vt:Ev.Ty}{t e:TypeId}(hu:P.underlying t=some (.array 2 e))(he:P.underlying e=some (.int .i64))(hs:d0t P e=some 1)(k:Ev.Pair):
  ∀(es:List MapEntry) (l:List (Ev.Pair×vt.den)) (i:Nat),es.map (·.key)=l.map (λp=>keyV .pair p.1)->(Instr.findAsking t (keyV .pair k) es i).run P w=.ok (fndI .pair vt k es l i) w
 |[],[],i,_=>rfl
 |[],p::l,i,h=>by simp at h
 |e' ::es,[],i,h=>by simp at h
 |e' ::es,p::l,i,h=>by
  simp only[r2z,List.cons.injEq]at h;rw[Instr.findAsking,Sem.run_bind,h.1,u0g hu he hs];rw[fndI];simp only[Result.andThen];cases b0l .pair k p.1 with
  |true=>rfl
  |false=>exact j0h hu he hs k es l (i+1) h.2
omit [Tabs]in
theorem b0y{w:World}{kt vt:Ev.Ty}{t:TypeId}(ht:keyA P t kt=true)(k:kt.den)(es:List MapEntry)(l:List (kt.den×vt.den))(he:es.map (·.key)=l.map (λp=>keyV kt p.1)):
  (Instr.findKey t (keyV kt k) es).run P w=.ok (fndI kt vt k es l 0) w:=by
 unfold keyA at ht;split at ht
 ·rename_i d hu
  split at ht
  ·obtain⟨e,rfl,gf,hs⟩:=g2e ht
   simp only[Instr.findKey,Sem.run_bind,run_underlying hu,Result.andThen];cases es with
   |nil=>cases l<;>rfl
   |cons x r=>
    cases l with
    |nil=>simp at he
    |cons p l=>
     have hn:Instr.findNow (.array 2 e) (keyV .pair k) (x::r) 0=none:=by
      rw[Instr.findNow];simp[Instr.sameNow]
     rw[hn];exact j0h hu gf hs k (x::r) (p::l) 0 he
  ·simp[Instr.findKey,run_underlying hu,u0v ht k es l 0 he,Result.andThen]
 ·cases ht
omit [Tabs]in
theorem w0k{w:World}{F:Nat->Prop}{kt vt:Ev.Ty}(hk:b0x kt=true){l:List (kt.den×vt.den)}{es:Array MapEntry}(hs:es.size=l.length)
  (h:∀i (h:i<l.length) (h' :i<es.size),RelE w F kt l[i].1 es[i].key/\RelE w F vt l[i].2 es[i].val):es.toList.map (·.key)=l.map (λp=>keyV kt p.1):=by
 apply List.ext_getElem
 ·simpa using hs
 ·intro i h1 h2
  simp only[s2k,s2p]at h1;simp only[List.getElem_map,Array.getElem_toList];exact e0m hk (h i (by omega) h1).1
omit [Tabs]in
theorem a2q{a b:Bt}(h:(a==b)=true):a=b:=by
 have:a.data=b.data:=by
  have h2:(a.data==b.data)=true:=h;simpa using h2
 cases a;cases b;simp_all
omit [Tabs]in
theorem a2f{kt:Ev.Ty}(hk:b0x kt=true){a b:kt.den}(h:b0l kt a b=true):a=b:=by
 cases kt<;>first|(cases hk;done)| (exact a2q h;done)| (simp only[b0l,beq_iff_eq]at h;exact h;done)| skip
 obtain⟨p,q⟩:=a;obtain⟨p',q'⟩:=b;simp only[b0l,r2i,beq_iff_eq]at h;rw[h.1,h.2]
omit [Tabs]in
theorem i1r{kt:Ev.Ty}(hk:b0x kt=true)(a:kt.den):Instr.sameBits 10000 (keyV kt a) (keyV kt a)=true:=by
 rw[show(10000:Nat)=9998+1+1 from rfl]
 cases kt<;>first|(cases hk;done)| (simp[keyV,Instr.sameBits];done)| (simp only[keyV,Instr.sameBits];exact(show(a.data==a.data)=true by simp))
def RelM(w:World)(F:Nat->Prop)(kt vt:Ev.Ty)(l:List (kt.den×vt.den))(es:Array MapEntry):Prop:=
 es.size=l.length/\∀i (h:i<l.length) (h' :i<es.size),RelE w F kt l[i].1 es[i].key/\RelE w F vt l[i].2 es[i].val
omit [Tabs]in
theorem z1f{w:World}{F:Nat->Prop}{kt vt:Ev.Ty}{l:List (kt.den×vt.den)}{v:Value}(h:RelD w F (.nm kt vt l) v):
  (v=.map none/\l=[])\/ ∃b es clock,v=.map (some b)/\w.heap[b]?=some (.map es clock)/\RelM w F kt vt l es/\StOk es clock:=by
 generalize hx:D.nm kt vt l=x at h;cases h with
 |nm0 kt' fg=>cases hx;exact .inl ⟨rfl,rfl⟩
 |nm kt' fg l' b es clock ka va hF hb hs hz he h1 h2 hst=>
  cases hx;refine .inr ⟨b,es,clock,rfl,hb,⟨hs,λi hi aK=>⟨?_,?_⟩⟩,hst⟩
  ·rw[(he i aK).1]
   exact RelE.of_cells (hz i hi).1 (h1 i hi)
  ·rw[(he i aK).2]
   exact RelE.of_cells (hz i hi).2 (h2 i hi)
 |_=>cases hx
omit [Tabs]in
theorem i2l{w:World}{F:Nat->Prop}{kt vt:Ev.Ty}{l:List (kt.den×vt.den)}{v:Value}(h:RelD w F (.nm kt vt l) v):
  (v=.map none/\l=[])\/ ∃b es clock,v=.map (some b)/\w.heap[b]?=some (.map es clock)/\RelM w F kt vt l es:=by
 rcases z1f h with h|⟨b,es,clock,h1,h2,h3,_⟩
 ·exact .inl h
 ·exact .inr ⟨b,es,clock,h1,h2,h3⟩
omit [Tabs]in
theorem n1j{w:World}{F:Nat->Prop}{kt vt:Ev.Ty}{t a e:TypeId}(ht:P.underlying t=some (.map a e))(ha:keyA P a kt=true)(hk:b0x kt=true)(k:kt.den){z:vt.den}{zv:Value}(hz:(zeroValue e).run P w=.ok zv w)(eP:RelE w F vt z zv)
  {l:List (kt.den×vt.den)}{m:Value}(hm:(m=.map none/\l=[])\/ ∃b es clock,m=.map (some b)/\w.heap[b]?=some (.map es clock)/\RelM w F kt vt l es)(ok:Bool):
  ∃v,(Instr.lookup t m (keyV kt k) ok).run P w=.ok (if ok then .tuple #[v,.bool (f0a kt vt l k)]else v) w/\RelE w F vt (a0k kt vt z l k) v:=by
 rcases hm with⟨rfl,rfl⟩| ⟨r,es,clock,rfl,hb,hs,h⟩
 ·have h1:=b0i (w:=w) ha true k
  have h2:=b0y (w:=w) (vt:=vt) ha k [] [] rfl;refine⟨zv,?_,eP⟩;have fU:(Instr.findKey a (keyV kt k) []).run P w=.ok none w:=h2;have h0:f0a kt vt [] k=false:=rfl;simp[Instr.lookup,run_underlying ht,h1,fU,hz,Result.andThen,h0]
 ·have h1:=b0i (w:=w) ha es.isEmpty k
  have h2:=b0y (w:=w) (vt:=vt) ha k es.toList l (w0k hk hs h);rcases j0u (kt:=kt) (vt:=vt) z k (λy v=>RelE w F vt y v) es.toList l 0 (by simpa using hs) (λj h1 h2=>by simpa using(h j h1 (by simpa using h2)).2)with⟨a1,a2,a3,a4⟩| ⟨a1,v,a2,a3,a4⟩
  ·rw[a2]at h2
   refine⟨zv,?_,by rw[a3];exact eP⟩;simp[Instr.lookup,run_underlying ht,MapKept.run_getObj_map hb,h1,h2,hz,Result.andThen,a1]
  ·rw[a2]at h2
   refine⟨v,?_,a3⟩;simp[Instr.lookup,run_underlying ht,MapKept.run_getObj_map hb,h1,h2,Result.andThen,a1]
def u1h(ok:Bool)(kt vt:Ev.Ty)(z:vt.den)(l:List (kt.den×vt.den))(k:kt.den):AV:=
 bif ok then .tup [avOf vt (a0k kt vt z l k),.cell (.d (.sc (.bool (f0a kt vt l k))))]else avOf vt (a0k kt vt z l k)
structure MapAt where
 kt:Ev.Ty
 vt:Ev.Ty
 l:List (kt.den×vt.den)
def b2w(st:ASt)(m:Operand):Option MapAt:=
 match ev st.fr m with
 |.cell (.mpr kk)=>match lkO st.ob kk with
  |.mp _ kt vt l _=>some ⟨kt,vt,l⟩
  |_=>none
 |.cell (.d (.nm kt vt l))=>some ⟨kt,vt,l⟩
 |_=>none
theorem b1j{F:Nat->Prop}{ρ:Env}{ac:Act}{w:World}(hr:Rel N F ρ st ac w){m:Operand}{M:MapAt}(h:b2w st m=some M):
  (ac.eval m=.map none/\M.l=[])\/ ∃b es clock,ac.eval m=.map (some b)/\w.heap[b]?=some (.map es clock)/\RelM w F M.kt M.vt M.l es:=by
 have dQ:=a0d hr m;unfold b2w at h;split at h
 ·rename_i kk hm
  rw[hm]at dQ;split at h
  ·rename_i t kt vt l dn aH
   cases h;have b8:=hr.ob kk;rw[aH]at b8;cases b8 with
   |mp t kt vt l b es clock aV aW aR hh=>
    refine .inr ⟨b,es,clock,?_,aW,aR,hh⟩;generalize ac.eval m=v at dQ;cases dQ with
    |cell c v h=>cases h with
     |mpr k v h=>exact h _ b aV rfl
  ·cases h
 ·rename_i kt vt l hm
  rw[hm]at dQ;cases h;exact i2l (a0w dQ)
 ·cases h
def i2u(P:Program)(N:Nat)(st:ASt)(d:Option Tmp)(t:TypeId)(m x:Operand)(ok:Bool):Option Eff:=
 match d with
 |none=>none
 |some d=>match b2w st m with
  |some ⟨kt,vt,l⟩=>match P.underlying t with
   |some (.map a e)=>match z1t P e vt with
    |some z=>match m0p kt (ev st.fr x)with
     |some k=>bif Nat.blt d N&&keyA P a kt&&b0x kt then some (.put d (u1h ok kt vt z l k))else none
     |none=>none
    |none=>none
   |_=>none
  |none=>none
theorem p1t{e:Eff}{o:Oper}{t:TypeId}{m x:Operand}{ok:Bool}(ho:o.op=.lookup t m x ok)(hs:i2u P N st o.dst t m x ok=some e):OpEff P N o st e:=by
 unfold i2u at hs;split at hs
 ·cases hs
 rename_i d hd;split at hs
 ·rename_i kt vt l hm
  split at hs
  ·rename_i a e' ht
   split at hs
   ·rename_i z hz
    split at hs
    ·rename_i k hk
     cases hb:(Nat.blt d N&&keyA P a kt&&b0x kt)with
     |false=>rw[hb]at hs;cases hs
     |true=>
      rw[hb]at hs;cases hs;simp only[r2i]at hb;obtain⟨⟨b1,b2⟩,b3⟩:=hb;refine .of_plain hd b1 (by unfold u1h;cases ok<;>first|exact j0y _ _|(simp[AV.plain,AV.plainL,j0y];done)) λF ρ ac w hr=>?_
      have oi:=b1j hr hm;have bI:ac.eval x=keyV kt k:=e0m (w:=w) (F:=F) b3 (b0s (e0w hk (a0d hr x)));obtain⟨zv,dG,hz2⟩:=m2w hz;obtain⟨v,hrun,hv⟩:=n1j (w:=w) (F:=F) ht b2 b3 k (dG w) (hz2 w F) oi ok;refine⟨(if ok then .tuple #[v,.bool (f0a kt vt l k)]else v),?_,?_⟩
      ·have hex:(execOp ac.eval o).run P w=(Instr.lookup t (ac.eval m) (keyV kt k) ok>>=λv=>pure (.value v)).run P w:=by
        simp[execOp,ho,bI]
       rw[hex,Sem.run_bind,hrun];rfl
      ·unfold u1h
       cases ok with
       |false=>exact k0y hv
       |true=>
        refine .tup _ _ rfl λi hi=>?_
        match i,hi with
        | 0,_=>exact k0y hv
        | 1,_=>exact .cell _ _ (.d _ _ (.sc _ rfl))
    ·cases hs
   ·cases hs
  ·cases hs
 ·cases hs
def f2q(P:Program)(N:Nat)(st:ASt)(d:Option Tmp)(t:TypeId)(m:Operand):Option Eff:=
 match d with
 |none=>none
 |some d=>match b2w st m with
  |some ⟨_,_,l⟩=>match P.underlying t with
   |some (.map _ _)=>bif Nat.blt d N then some (.put d (.cell (.d (.sc (.int .i64 (l.length:Int))))))else none
   |_=>none
  |none=>none
theorem w1j{e:Eff}{o:Oper}{t:TypeId}{m:Operand}{ts:Array TypeId}(ho:o.op=.call ⟨.builtin .len,#[m],ts⟩)(pw:ts=#[t])(hs:f2q P N st o.dst t m=some e):OpEff P N o st e:=by
 subst pw;unfold f2q at hs;split at hs
 ·cases hs
 rename_i d hd;split at hs
 ·rename_i kt vt l hm
  split at hs
  ·rename_i a e' ht
   cases hb:Nat.blt d N with
   |false=>rw[hb]at hs;cases hs
   |true=>
    rw[hb]at hs;cases hs;refine .of_plain hd hb rfl λF ρ ac w hr=>⟨.int .i64 (l.length:Int),?_,.cell _ _ (.d _ _ (.sc _ rfl))⟩;rcases b1j hr hm with⟨h1,h2⟩| ⟨b,es,clock,h1,h2,h3⟩
    ·simp only at h2
     subst h2;simp[execOp,ho,resolve,invoke,builtin,Builtin.len_,h1,run_underlying ht,goInt,Result.andThen]
    ·have qp:es.size=l.length:=h3.1
     simp[execOp,ho,resolve,invoke,builtin,Builtin.len_,h1,run_underlying ht,goInt,Result.andThen,MapKept.run_getObj_map h2,qp]
  ·cases hs
 ·cases hs
def r1n(P:Program)(N:Nat)(T:List (TypeId×Ev.Ty))(d:Option Tmp)(t:TypeId):Option Eff:=
 match d with
 |none=>none
 |some d=>match P.underlying t with
  |some (.map a e)=>match tyOf T a,tyOf T e with
   |some kt,some vt=>bif Nat.blt d N then some (.new d (.mp t kt vt [] true) d (.cell (.mpr d)))else none
   |_,_=>none
  |_=>none
theorem o1b{T:List (TypeId×Ev.Ty)}{e:Eff}{o:Oper}{t:TypeId}{r:Option Operand}(ho:o.op=.makeMap t r)(hs:r1n P N T o.dst t=some e)(qc:r=none):OpEff P N o st e:=by
 subst qc;obtain⟨dst,op,ty,pos,after,guard⟩:=o;dsimp only at ho hs;subst ho;unfold r1n at hs;split at hs
 ·cases hs
 ·rename_i d
  split at hs
  ·split at hs
   ·rename_i kt vt _ _
    cases hd:Nat.blt d N with
    |false=>rw[hd]at hs;cases hs
    |true=>
     rw[hd]at hs;cases hs;refine⟨rfl,λF ρ a w h=>?_⟩;obtain⟨h1,h2⟩:=h.setOb (w' :=w.alloc (.map #[] 0)) rfl rfl rfl (by simp) d (.box w.heap.size) (.mp t kt vt [] true)
      (λb hb _=>Go.RowKit.Below.heap_alloc w _ b hb) (λb hb=>by cases hb;exact⟨by simp,.inl (r2q _)⟩)
      (.mp _ _ _ _ w.heap.size #[] 0 (Env.set_same _ _ _) (by show(w.heap.push (Obj.map #[] 0))[w.heap.size]?=_;simp) rfl (λi hi=>by simp at hi) _ ⟨λ_=>⟨rfl,λi hi=>by simp at hi⟩,λi hi=>by simp at hi,λi j hi=>by simp at hi⟩) (λhk=>absurd (t2h (a0e hd) h.df.2) (by omega))
     refine⟨.map (some w.heap.size),w.alloc (.map #[] 0),F,_,.inl ?_,h1.put d (a0e hd) (.cell _ _ (.mpr _ _ λl b hb hl=>?_)),h2,⟨λj hj=>Env.set_other _ _ _ λe=>hj (by rw[e];rfl),λb hb _=>Go.RowKit.Below.heap_alloc w _ b hb⟩⟩
     ·simp[execOp]
      rfl
     ·rw[Env.set_same]at hb
      cases hb;cases hl;rfl
   ·cases hs
  ·cases hs
omit [Tabs]in
theorem q0g{kt vt:Ev.Ty}(hk:b0x kt=true)(k:kt.den):∀(es:List MapEntry) (l:List (kt.den×vt.den)) (i j:Nat) (u:Value),es.map (·.key)=l.map (λp=>keyV kt p.1)->fndI kt vt k es l i=some (j,u)->i<=j/\∃x,es[j - i]?=some x/\x.key=keyV kt k/\x.val=u:=by
 intro es
 induction es with
 |nil=>intro l i j u _ h;cases l<;>cases h
 |cons e es ih=>
  intro l i j u he h;cases l with
  |nil=>cases h
  |cons p l=>
   simp only[r2z,List.cons.injEq]at he;rw[fndI]at h;cases hq:b0l kt k p.1 with
   |true=>
    rw[hq]at h;cases h;exact⟨r2q _,e,by simp,by rw[he.1,a2f hk hq],rfl⟩
   |false=>
    rw[hq]at h;obtain⟨a1,x,a2,a3⟩:=ih l (i+1) j u he.2 h;refine⟨by omega,x,?_,a3⟩;rw[show j - i=(j - (i+1))+1 by omega];simpa using a2
omit [Tabs]in
theorem StOk.modify {es:Array MapEntry}{clock:Nat}(hd:StOk es clock)(j:Nat)(f:MapEntry->MapEntry)(hf:∀x,(f x).born=x.born):StOk (es.modify j f) clock:=by
 have get:∀(i:Nat) (h:i<(es.modify j f).size),(es.modify j f)[i].born=(es[i]'(by simpa using h)).born:=λi h=>by
  rw[Array.getElem_modify];split
  ·exact hf _
  ·rfl
 refine⟨λi hi=>?_,λi k hi hk h=>?_⟩
 ·rw[get i hi]
  exact hd.1 i (by simpa using hi)
 ·rw[get i hi,get k hk]at h
  exact hd.2 i k (by simpa using hi) (by simpa using hk) h
def WrM(kt vt:Ev.Ty)(k:kt.den)(v:Value)(l:List (kt.den×vt.den))(es es' :Array MapEntry)(clock clock' :Nat):Prop:=
 (fndI kt vt k es.toList l 0=none/\es' =es.push {key:=keyV kt k,val:=v,born:=clock}/\clock' =clock+1)\/
 ∃j u,fndI kt vt k es.toList l 0=some (j,u)/\clock' =clock/\es' =es.modify j λx=>{x with key:=keyV kt k,val:=v}
omit [Tabs]in
theorem n0y{w:World}{kt vt:Ev.Ty}{t a e:TypeId}(ht:P.underlying t=some (.map a e))(ha:keyA P a kt=true)(hk:b0x kt=true)(k:kt.den)(v:Value){r clock:Nat}{es:Array MapEntry}{l:List (kt.den×vt.den)}
  (hb:w.heap[r]?=some (.map es clock))(he:es.toList.map (·.key)=l.map (λp=>keyV kt p.1)):
  ∃es' clock',(Instr.mapUpdate t (.map (some r)) (keyV kt k) v).run P w=.ok () {w with heap:=w.heap.setIfInBounds r (.map es' clock')}/\WrM kt vt k v l es es' clock clock' :=by
 have h1:=b0i (w:=w) ha false k;have h2:=b0y (w:=w) (vt:=vt) ha k es.toList l he;cases hf:fndI kt vt k es.toList l 0 with
 |none=>
  rw[hf]at h2;refine⟨_,clock+1,?_,.inl ⟨hf,rfl,rfl⟩⟩;simp[Instr.mapUpdate,run_underlying ht,MapKept.run_getObj_map hb,h1,h2,MapKept.run_setObj_map _ hb,Result.andThen]
 |some p=>
  obtain⟨j,u⟩:=p;rw[hf]at h2;obtain⟨_,x,hx,mf,_⟩:=q0g hk k es.toList l 0 j u he hf;have eY:es[j]?=some x:=by simpa using hx
  refine⟨_,clock,?_,.inr ⟨j,u,hf,rfl,rfl⟩⟩;have hst:(Instr.keyThatStays (keyV kt k) (keyV kt k)).run P w=.ok (keyV kt k) w:=by simp[Instr.keyThatStays,i1r hk k]
  simp[Instr.mapUpdate,run_underlying ht,MapKept.run_getObj_map hb,h1,h2,eY,mf,hst,MapKept.run_setObj_map _ hb,Result.andThen]
omit [Tabs]in
theorem p1j{w:World}{F:Nat->Prop}{kt vt:Ev.Ty}{t a e:TypeId}(ht:P.underlying t=some (.map a e))(ha:keyA P a kt=true)(hk:b0x kt=true)(k:kt.den){z:vt.den}{zv:Value}(hz:(zeroValue e).run P w=.ok zv w)(eP:RelE w F vt z zv){r clock:Nat}{es:Array MapEntry}{l:List (kt.den×vt.den)}
  (hb:w.heap[r]?=some (.map es clock))(hM:RelM w F kt vt l es)(hd:clock=es.size/\∀i (h:i<es.size),es[i].born=i):
  ∃es' clock' v,(Instr.mapEntry t (.map (some r)) (keyV kt k)).run P w=.ok (.tuple #[v,.int .i64 (a0q kt vt l k:Int)]) {w with heap:=w.heap.setIfInBounds r (.map es' clock')}/\WrM kt vt k v l es es' clock clock' /\RelE w F vt (a0k kt vt z l k) v:=by
 have he:=w0k hk hM.1 hM.2;have h1:=b0i (w:=w) ha false k;have h2:=b0y (w:=w) (vt:=vt) ha k es.toList l he;rcases j0u (kt:=kt) (vt:=vt) z k (λy v=>RelE w F vt y v) es.toList l 0 (by simpa using hM.1) (λj h1 h2=>by simpa using(hM.2 j h1 (by simpa using h2)).2)with⟨a1,a2,a3,a4⟩| ⟨a1,v,a2,a3,a4⟩
 ·rw[a2]at h2
  refine⟨_,clock+1,zv,?_,.inl ⟨a2,rfl,rfl⟩,by rw[a3];exact eP⟩;rw[a4, <-hM.1, <-hd.1];simp[Instr.mapEntry,run_underlying ht,MapKept.run_getObj_map hb,h1,h2,hz,MapKept.run_setObj_map _ hb,Result.andThen,goInt]
 ·rw[a2]at h2
  rw[s2u]at a2 h2;obtain⟨_,x,hx,mf,bI⟩:=q0g hk k es.toList l 0 _ v he a2;have eY:es[a0q kt vt l k]?=some x:=by simpa using hx
  have aJ:a0q kt vt l k<es.size:=by rw[hM.1];exact a4
  have pz:x.born=a0q kt vt l k:=by
   have:=hd.2 _ aJ;rw[s2h aJ,r2l]at eY;rw [<-eY];exact this
  refine⟨_,clock,v,?_,.inr ⟨_,v,a2,rfl,rfl⟩,a3⟩;have hst:(Instr.keyThatStays (keyV kt k) (keyV kt k)).run P w=.ok (keyV kt k) w:=by simp[Instr.keyThatStays,i1r hk k]
  have hm:(es.modify (a0q kt vt l k) λx=>{x with key:=keyV kt k})=es.modify (a0q kt vt l k) λx=>{x with key:=keyV kt k,val:=v}:=by
   apply Array.ext
   ·simp
   ·intro i h3 h4
    simp only[Array.getElem_modify];by_cases hi:a0q kt vt l k=i
    ·subst hi
     rw[if_pos rfl,if_pos rfl];rw[s2h aJ,r2l]at eY;rw[eY, <-bI]
    ·rw[if_neg hi,if_neg hi]
  simp[Instr.mapEntry,run_underlying ht,MapKept.run_getObj_map hb,h1,h2,eY,mf,pz,hst,MapKept.run_setObj_map _ hb,Result.andThen,goInt,hm]
omit [Tabs]in
theorem q0e{kt vt:Ev.Ty}(k:kt.den)(y:vt.den):∀(es:List MapEntry) (l:List (kt.den×vt.den)) (i:Nat),es.length=l.length->fndI kt vt k es l i=none->b0d kt vt l k y=l++ [(k,y)]
 |[],[],i,_,_=>rfl
 |[],_::_,_,h,_=>by simp at h
 |_::_,[],_,h,_=>by simp at h
 |e::es,p::l,i,h,hf=>by
  rw[fndI]at hf;rw[b0d];cases hq:b0l kt k p.1 with
  |true=>rw[hq]at hf;cases hf
  |false=>
   rw[hq]at hf;rw[u2k,q0e k y es l (i+1) (by simpa using h) hf];rfl
omit [Tabs]in
theorem q0m{kt vt:Ev.Ty}(k:kt.den)(y:vt.den):∀(es:List MapEntry) (l:List (kt.den×vt.den)) (i j:Nat) (u:Value),es.length=l.length->fndI kt vt k es l i=some (j,u)->i<=j/\b0d kt vt l k y=l.set (j - i) (k,y)
 |[],[],i,j,u,_,h=>by cases h
 |[],_::_,_,_,_,h,_=>by simp at h
 |_::_,[],_,_,_,h,_=>by simp at h
 |e::es,p::l,i,j,u,h,hf=>by
  rw[fndI]at hf;rw[b0d];cases hq:b0l kt k p.1 with
  |true=>
   rw[hq]at hf;cases hf;exact⟨r2q _,by rw[Nat.sub_self];rfl⟩
  |false=>
   rw[hq]at hf;obtain⟨h1,h2⟩:=q0m k y es l (i+1) j u (by simpa using h) hf;refine⟨by omega,?_⟩;rw[u2k,h2,show j - i=(j - (i+1))+1 by omega];rfl
omit [Tabs]in
theorem o1m{w w' :World}{F:Nat->Prop}(hF:∀b,F b->w'.heap[b]?=w.heap[b]?){kt vt:Ev.Ty}(hk:b0x kt=true)(k:kt.den)(y:vt.den){yv:Value}(hy:RelE w F vt y yv){es es' :Array MapEntry}{clock clock' :Nat}{l:List (kt.den×vt.den)}
  (h:RelM w F kt vt l es)(he:WrM kt vt k yv l es es' clock clock'):RelM w' F kt vt (b0d kt vt l k y) es' :=by
 have hs:=h.1;have old:∀i (h:i<l.length) (h' :i<es.size),RelE w' F kt l[i].1 es[i].key/\RelE w' F vt l[i].2 es[i].val:=λi h1 h2=>⟨(h.2 i h1 h2).1.mono hF λ_ h=>h,(h.2 i h1 h2).2.mono hF λ_ h=>h⟩;have dS:RelE w' F vt y yv:=hy.mono hF λ_ h=>h;rcases he with⟨h1,rfl,_⟩| ⟨j,u,h1,_,rfl⟩
 ·have hp:=q0e k y es.toList l 0 (by simpa using hs) h1
  rw[hp];refine⟨by simp[hs],λi h2 h3=>?_⟩;by_cases hi:i<l.length
  ·have aK:i<es.size:=by omega
   rw[t2e hi,Array.getElem_push_lt aK];exact old i hi aK
  ·have hi2:i=l.length:=by simp at h2;omega
   subst hi2;have e1:(es.push {key:=keyV kt k,val:=yv,born:=clock})[l.length]'h3={key:=keyV kt k,val:=yv,born:=clock}:=by
    simp only[Array.getElem_push,hs,Nat.lt_irrefl,dite_false]
   rw[e1];simp only[List.getElem_concat_length];exact⟨x0v hk k,dS⟩
 ·obtain⟨_,hp⟩:=q0m k y es.toList l 0 j u (by simpa using hs) h1
  rw[Nat.sub_zero]at hp;rw[hp];refine⟨by simp[hs],λi h2 h3=>?_⟩;have hi:i<l.length:=by simpa using h2
  have aK:i<es.size:=by omega
  rw[List.getElem_set,Array.getElem_modify];by_cases hj:j=i
  ·rw[if_pos hj,if_pos hj]
   exact⟨x0v hk k,dS⟩
  ·rw[if_neg hj,if_neg hj]
   exact old i hi aK
omit [Tabs]in
theorem b1o{kt vt:Ev.Ty}{k:kt.den}{yv:Value}{es es' :Array MapEntry}{clock clock' :Nat}{l:List (kt.den×vt.den)}(he:WrM kt vt k yv l es es' clock clock')(hd:clock=es.size/\∀i (h:i<es.size),es[i].born=i):
  clock' =es'.size/\∀i (h:i<es'.size),es'[i].born=i:=by
 rcases he with⟨_,rfl,rfl⟩| ⟨j,u,_,rfl,rfl⟩
 ·refine⟨by simp[hd.1],λi hi=>?_⟩
  by_cases h:i<es.size
  ·rw[Array.getElem_push_lt h];exact hd.2 i h
  ·have:i=es.size:=by simp at hi;omega
   subst this;simp[hd.1]
 ·refine⟨by simp[hd.1],λi hi=>?_⟩
  rw[Array.getElem_modify];have aK:i<es.size:=by simpa using hi
  split
  ·exact hd.2 i aK
  ·exact hd.2 i aK
omit [Tabs]in
theorem StOk.write {kt vt:Ev.Ty}{k:kt.den}{yv:Value}{es es' :Array MapEntry}{clock clock' :Nat}{l:List (kt.den×vt.den)}(hd:StOk es clock)(he:WrM kt vt k yv l es es' clock clock'):StOk es' clock' :=by
 have get:∀(i:Nat) (h:i<(es.push {key:=keyV kt k,val:=yv,born:=clock}).size),(es.push {key:=keyV kt k,val:=yv,born:=clock})[i].born=if h2:i<es.size then es[i].born else clock:=λi h=>by
  by_cases h2:i<es.size
  ·rw[dif_pos h2,Array.getElem_push_lt h2]
  ·have:i=es.size:=by simp at h;omega
   subst this;rw[dif_neg h2];simp
 rcases he with⟨_,rfl,rfl⟩| ⟨j,u,_,rfl,rfl⟩
 ·refine⟨λi hi=>?_,λi j hi hj h=>?_⟩
  ·rw[get i hi]
   split
   ·rename_i h2
    have:=hd.1 i h2;omega
   ·omega
  ·rw[get i hi,get j hj]at h
   split at h<;>split at h
   ·exact hd.2 i j ‹_› ‹_› h
   ·have:=hd.1 i ‹_›
    omega
   ·have:=hd.1 j ‹_›
    omega
   ·simp at hi hj
    omega
 ·exact hd.modify j _ λx=>rfl
theorem q0p{F:Nat->Prop}{ρ:Env}{ac:Act}{w:World}(hr:Rel N F ρ st ac w){kk b:Nat}(aV:ρ kk=some (.box b)){es es' :Array MapEntry}{clock clock' :Nat}(aW:w.heap[b]?=some (.map es clock))(t:TypeId){kt vt:Ev.Ty}{l' :List (kt.den×vt.den)}{dn:Bool}
  (hM:∀w',(∀b,F b->w'.heap[b]?=w.heap[b]?)->RelM w' F kt vt l' es')(hd:(dn=true->clock' =es'.size/\∀i (h:i<es'.size),es'[i].born=i)/\StOk es' clock'):
  Rel N F ρ {st with ob:=ASt.setO kk (.mp t kt vt l' dn) st.ob} ac {w with heap:=w.heap.setIfInBounds b (.map es' clock')}/\Fr F ρ w F ρ {w with heap:=w.heap.setIfInBounds b (.map es' clock')}/\
   ∀e:Eff,e.touch=some kk->Tch e ρ w ρ {w with heap:=w.heap.setIfInBounds b (.map es' clock')}:=by
 have cG:b<w.heap.size:=(r2r.1 aW).1;have cP:∀b',b' ≠b->({w with heap:=w.heap.setIfInBounds b (.map es' clock')}:World).heap[b']?=w.heap[b']?:=λb' aS=>by
  have:b≠b' :=λh=>aS h.symm;simp[s2r,this]
 have hFk:∀b',F b' ->({w with heap:=w.heap.setIfInBounds b (.map es' clock')}:World).heap[b']?=w.heap[b']?:=λb' hb' =>cP b' λh=>by
  subst h;exact hr.rw.dis b' hb' ⟨kk,_,aV,rfl⟩
 have hM' :=hM _ hFk;obtain⟨h1,h2⟩:=hr.setBox (w' :={w with heap:=w.heap.setIfInBounds b (.map es' clock')}) rfl rfl rfl (by simp) kk (.mp t kt vt l' dn)
  (λb' hb' =>cP b' λhe=>hb' _ aV (by rw[he];rfl))
  (.mp _ _ _ _ b es' clock' aV (by simp[s2r,cG]) hM'.1 hM'.2 dn hd)
 exact⟨h1,h2,λe he=>⟨λ_ _=>rfl,λb' hb' hn=>cP b' λheq=>hn kk _ he aV (by rw[heq];rfl)⟩⟩
theorem k1o{F:Nat->Prop}{ρ:Env}{ac:Act}{w:World}(hr:Rel N F ρ st ac w){m:Operand}{kk:Nat}(hm:ev st.fr m=.cell (.mpr kk)){tm:TypeId}{kt vt:Ev.Ty}{l:List (kt.den×vt.den)}{dn:Bool}(aH:lkO st.ob kk=.mp tm kt vt l dn):
  ∃b es clock,ρ kk=some (.box b)/\w.heap[b]?=some (.map es clock)/\ac.eval m=.map (some b)/\RelM w F kt vt l es/\(dn=true->clock=es.size/\∀i (h:i<es.size),es[i].born=i)/\StOk es clock:=by
 have b8:=hr.ob kk;rw[aH]at b8;have dQ:=a0d hr m;rw[hm]at dQ;cases b8 with
 |mp t kt vt l b es clock aV aW aR hh _ hd=>
  refine⟨b,es,clock,aV,aW,?_,⟨aR,hh⟩,hd⟩;generalize ac.eval m=v at dQ;cases dQ with
  |cell c v h=>cases h with
   |mpr k v h=>exact h _ b aV rfl
def sPut(P:Program)(st:ASt)(t:TypeId)(m x v:Operand):Option Eff:=
 match ev st.fr m with
 |.cell (.mpr kk)=>match lkO st.ob kk with
  |.mp tm kt vt l dn=>match P.underlying t with
   |some (.map a _)=>match m0p kt (ev st.fr x)with
    |some k=>match m0p vt (ev st.fr v)with
     |some y=>bif keyA P a kt&&b0x kt then some (.upd kk (.mp tm kt vt (b0d kt vt l k y) dn))else none
     |none=>none
    |none=>none
   |_=>none
  |_=>none
 |_=>none
theorem j1z{e:Eff}{o:Oper}{t:TypeId}{m x v:Operand}(ho:o.op=.mapUpdate t m x v\/o.op=.insert t m x v)(hd:o.dst=none)(hs:sPut P st t m x v=some e):OpEff P N o st e:=by
 unfold sPut at hs;split at hs
 ·rename_i kk hm
  split at hs
  ·rename_i tm kt vt l dn aH
   split at hs
   ·rename_i a e' ht
    split at hs
    ·rename_i k hk
     split at hs
     ·rename_i y hy
      cases hb:(keyA P a kt&&b0x kt)with
      |false=>rw[hb]at hs;cases hs
      |true=>
       rw[hb]at hs;cases hs;rw[r2i]at hb;obtain⟨b2,b3⟩:=hb;refine⟨hd,λF ρ ac w hr=>?_⟩;obtain⟨b,es,clock,aV,aW,hmv,hM,hdn⟩:=k1o hr hm aH;have bI:ac.eval x=keyV kt k:=e0m (w:=w) (F:=F) b3 (b0s (e0w hk (a0d hr x)));have hyE:RelE w F vt y (ac.eval v):=b0s (e0w hy (a0d hr v));obtain⟨es',clock',hrun,eU⟩:=n0y (w:=w) (vt:=vt) ht b2 b3 k (ac.eval v) aW (w0k b3 hM.1 hM.2);obtain⟨h1,h2,h3⟩:=q0p hr aV aW tm (dn:=dn) (clock' :=clock') (λw' hF=>o1m hF b3 k y hyE hM eU) ⟨λir=>b1o eU (hdn.1 ir),hdn.2.write eU⟩;refine⟨undef,_,F,ρ,.inr ⟨?_,rfl⟩,h1,h2,h3 _ rfl⟩;rcases ho with ho|ho<;>simp[execOp,ho,hmv,bI,hrun,Result.andThen]
     ·cases hs
    ·cases hs
   ·cases hs
  ·cases hs
 ·cases hs
def sEnt(P:Program)(N:Nat)(st:ASt)(d:Option Tmp)(t:TypeId)(m x:Operand):Option Eff:=
 match d with
 |none=>none
 |some d=>match ev st.fr m with
  |.cell (.mpr kk)=>match lkO st.ob kk with
   |.mp tm kt vt l dn=>match P.underlying t with
    |some (.map a e)=>match z1t P e vt with
     |some z=>match m0p kt (ev st.fr x)with
      |some k=>bif Nat.blt d N&&dn&&keyA P a kt&&b0x kt then some (.upp kk (.mp tm kt vt (b0d kt vt l k (a0k kt vt z l k)) dn) d (.tup [avOf vt (a0k kt vt z l k),.cell (.d (.sc (.int .i64 (a0q kt vt l k:Int))))]))else none
      |none=>none
     |none=>none
    |_=>none
   |_=>none
  |_=>none
theorem y1y{e:Eff}{o:Oper}{t:TypeId}{m x:Operand}(ho:o.op=.mapEntry t m x)(hs:sEnt P N st o.dst t m x=some e):OpEff P N o st e:=by
 unfold sEnt at hs;split at hs
 ·cases hs
 rename_i d hd;split at hs
 ·rename_i kk hm
  split at hs
  ·rename_i tm kt vt l dn aH
   split at hs
   ·rename_i a e' ht
    split at hs
    ·rename_i z hz
     split at hs
     ·rename_i k hk
      cases hb:(Nat.blt d N&&dn&&keyA P a kt&&b0x kt)with
      |false=>rw[hb]at hs;cases hs
      |true=>
       rw[hb]at hs;cases hs;simp only[r2i]at hb;obtain⟨⟨⟨b1,b4⟩,b2⟩,b3⟩:=hb;refine⟨hd,λF ρ ac w hr=>?_⟩;obtain⟨b,es,clock,aV,aW,hmv,hM,hdn⟩:=k1o hr hm aH;have bI:ac.eval x=keyV kt k:=e0m (w:=w) (F:=F) b3 (b0s (e0w hk (a0d hr x)));obtain⟨zv,dG,hz2⟩:=m2w hz;obtain⟨es',clock',v,hrun,eU,hvE⟩:=p1j (w:=w) (F:=F) ht b2 b3 k (dG w) (hz2 w F) aW hM (hdn.1 b4);obtain⟨h1,h2,h3⟩:=q0p hr aV aW tm (dn:=dn) (clock' :=clock') (λw' hF=>o1m hF b3 k (a0k kt vt z l k) hvE hM eU) ⟨λir=>b1o eU (hdn.1 ir),hdn.2.write eU⟩;refine⟨.tuple #[v,.int .i64 (a0q kt vt l k:Int)],_,F,ρ,.inl ?_,h1.put d (a0e b1) ?_,h2,h3 _ rfl⟩
       ·simp[execOp,ho,hmv,bI,hrun,Result.andThen]
       ·refine .tup _ _ rfl λi hi=>?_
        have hFk:∀b',F b' ->({w with heap:=w.heap.setIfInBounds b (.map es' clock')}:World).heap[b']?=w.heap[b']?:=λb' hb' =>h2.keep b' (hr.rw.lt b' hb') (hr.rw.dis b' hb')
        match i,hi with
        | 0,_=>exact k0y (hvE.mono hFk λ_ h=>h)
        | 1,_=>exact .cell _ _ (.d _ _ (.sc _ rfl))
     ·cases hs
    ·cases hs
   ·cases hs
  ·cases hs
 ·cases hs
omit [Tabs]in
theorem c1h{es:Array MapEntry}(hd:∀i (h:i<es.size),es[i].born=i){j:Nat}(hj:j<es.size):es.findIdx? (λe=>(e.born:Int)==(j:Int))=some j:=by
 rw[Array.findIdx?_eq_some_iff_getElem];refine⟨hj,by simp[hd j hj],λi hi=>?_⟩;have:=hd i (by omega);simp only[this,beq_iff_eq];omega
def kEnt{ρ:Type}(st:ASt)(m s v:Operand)(k:Eff->Option ρ):Option ρ:=
 match ev st.fr m with
 |.cell (.mpr kk)=>match lkO st.ob kk with
  |.mp tm kt vt l dn=>match ev st.fr s with
   |.cell (.d (.sc (.int .i64 j)))=>match m0p vt (ev st.fr v)with
    |some y=>bif dn then(q1f kt vt l j y).bind λl' =>k (.upd kk (.mp tm kt vt l' dn))else none
    |none=>none
   |_=>none
  |_=>none
 |_=>none
theorem b2d{ρ:Type}{r:ρ}{k:Eff->Option ρ}{o:Oper}{t:TypeId}{m s v:Operand}(ho:o.op=.entryStore t m s v)(hd:o.dst=none)(hs:kEnt st m s v k=some r):∃e,OpEff P N o st e/\k e=some r:=by
 unfold kEnt at hs;split at hs
 ·rename_i kk hm
  split at hs
  ·rename_i tm kt vt l dn aH
   split at hs
   ·rename_i j hj
    split at hs
    ·rename_i y hy
     cases dn with
     |false=>cases hs
     |true=>
      simp only[u2j,r2m]at hs;obtain⟨l',bT,hk⟩:=hs;refine⟨.upd kk (.mp tm kt vt l' true),⟨hd,λF ρ ac w hr=>?_⟩,hk⟩;obtain⟨b,es,clock,aV,aW,hmv,hM,hdn⟩:=k1o hr hm aH;have hst:=hdn.2;have hdn:=hdn.1 rfl;have gG:ac.eval s=.int .i64 j:=by
       have:=a0d hr s;rw[hj]at this;generalize ac.eval s=q at this;have h2:=a0w this;cases h2;rfl
      have hyE:RelE w F vt y (ac.eval v):=b0s (e0w hy (a0d hr v));unfold q1f at bT;split at bT
      ·rename_i h0
       split at bT
       ·rename_i p hp
        cases bT;obtain⟨aJ,hpe⟩:=r2p.1 hp;have lM:j.toNat<es.size:=by rw[hM.1];exact aJ
        have j9:=c1h hdn.2 lM;rw[Int.toNat_of_nonneg h0]at j9;obtain⟨h1,h2,h3⟩:=q0p hr aV aW tm (kt:=kt) (vt:=vt) (l' :=l.set j.toNat (p.1,y)) (es' :=es.modify j.toNat λx=>{x with val:=ac.eval v}) (dn:=true) (clock' :=clock) (λw' hF=>by
          refine⟨by simp[hM.1],λi h4 h5=>?_⟩;have hi:i<l.length:=by simpa using h4
          have aK:i<es.size:=by rw[hM.1];exact hi
          rw[List.getElem_set,Array.getElem_modify];by_cases cN:j.toNat=i
          ·subst cN
           rw[if_pos rfl,if_pos rfl];refine⟨?_,hyE.mono hF λ_ h=>h⟩;have:=(hM.2 _ hi aK).1.mono hF λ_ h=>h;rw[hpe]at this;exact this
          ·rw[if_neg cN,if_neg cN]
           exact⟨(hM.2 i hi aK).1.mono hF λ_ h=>h,(hM.2 i hi aK).2.mono hF λ_ h=>h⟩)
         ⟨λ_=>by
          refine⟨by simp[hdn.1],λi hi=>?_⟩;rw[Array.getElem_modify];have aK:i<es.size:=by simpa using hi
          split<;>exact hdn.2 i aK,hst.modify _ _ λ_=>rfl⟩
        refine⟨undef,_,F,ρ,.inr ⟨?_,rfl⟩,h1,h2,h3 _ rfl⟩;have hrun:(Instr.entryStore t (.map (some b)) (.int .i64 j) (ac.eval v)).run P w=.ok () {w with heap:=w.heap.setIfInBounds b (.map (es.modify j.toNat λx=>{x with val:=ac.eval v}) clock)}:=by
         have qa:(asInt (.int .i64 j)).run P w=.ok j w:=rfl;simp only[Instr.entryStore,Sem.run_bind,MapKept.run_getObj_map aW,Result.andThen,qa,j9];exact MapKept.run_setObj_map _ aW
        simp[execOp,ho,hmv,gG,hrun,Result.andThen]
       ·cases bT
      ·cases bT
    ·cases hs
   ·cases hs
  ·cases hs
 ·cases hs
end
end Esp

import Derived.Test.YtnaeiccibhdknaaGreatDoorEvAl
set_option linter.unusedSimpArgs false
set_option linter.unusedVariables false
namespace Ev
inductive Val where
 |mk(kind n:Int)(s:Bt)(l:List Val)
 deriving Inhabited
def Val.kind:Val->Int|.mk k _ _ _=>k
def Val.n:Val->Int|.mk _ n _ _=>n
def Val.s:Val->Bt|.mk _ _ s _=>s
def Val.l:Val->List Val|.mk _ _ _ l=>l
structure Prp where
 name:Bt
 val:Val
 deriving Inhabited
structure Node where
 id:Int
 labels:List Bt
 props:List Prp
 deriving Inhabited
structure Edg where
 id:Int
 src:Int
 dst:Int
 type:Bt
 props:List Prp
 deriving Inhabited
structure Graph where
 nodes:List Node
 edges:List Edg
 next:Int
 deriving Inhabited
structure Opn where
 kind:Int
 id:Int
 src:Int
 dst:Int
 name:Bt
 val:Val
 labels:List Bt
 props:List Prp
 deriving Inhabited
structure Delta where
 gone:List Node
 fresh:List Node
 goneE:List Edg
 freshE:List Edg
 src:Int
 dst:Int
 deriving Inhabited
inductive Term where
 |mk(kind:Int)(v:Val)(name:Bt)(a:List Term)
 deriving Inhabited
def Term.kind:Term->Int|.mk k _ _ _=>k
def Term.v:Term->Val|.mk _ v _ _=>v
def Term.name:Term->Bt|.mk _ _ s _=>s
def Term.a:Term->List Term|.mk _ _ _ l=>l
structure Dot where
 name:Bt
 label:Bt
 deriving Inhabited
structure Arrow where
 name:Bt
 type:Bt
 back:Bool
 many:Bool
 deriving Inhabited
structure Item where
 name:Bt
 agg:Bt
 t:Term
 deriving Inhabited
structure Query where
 dots:List Dot
 arrows:List Arrow
 wher:List Term
 items:List Item
 dist:Bool
 deriving Inhabited
structure Cnt where
 r:List Val
 n:Int
 deriving Inhabited
structure Hold where
 q:Query
 found:List (List Int)
 deriving Inhabited
inductive Plan where
 |mk(kind n:Int)(wher:Term)(src:List Plan)
 deriving Inhabited
def Plan.kind:Plan->Int|.mk k _ _ _=>k
def Plan.n:Plan->Int|.mk _ n _ _=>n
def Plan.wher:Plan->Term|.mk _ _ t _=>t
def Plan.src:Plan->List Plan|.mk _ _ _ l=>l
structure Entry where
 label:Bt
 prop:Bt
 v:Val
 ids:List Int
 deriving Inhabited
structure Disk where
 safe:Bt
 wait:Bt
 deriving Inhabited
structure Store where
 g:Graph
 at_:Int
 log:Disk
 base:Bt
 text:List Bt
 deriving Inhabited
structure Guest where
 view:Int
 queue:List (List Cnt)
 fresh:Bool
 at_:Int
 deriving Inhabited
structure Desk where
 s:Store
 views:List Hold
 guests:List Guest
 deriving Inhabited
structure Answer where
 e:Int
 at_:Int
 ids:List Int
 rows:List Cnt
 fresh:Bool
 deriving Inhabited
structure Grant where
 who:Bt
 labels:List Bt
 deriving Inhabited
structure Request where
 kind:Int
 ops:List Opn
 text:Bt
 n:Int
 deriving Inhabited
structure Pair where
 p:Int
 q:Int
 deriving Inhabited
structure Envr where
 g:Graph
 at_:List (Bt×Int)
 deriving Inhabited
inductive Ty where
 |i64|u8|u32|u64|i32
 |bool|str
 |lst(t:Ty)
 |ptr(t:Ty)
 |two(t:Ty)
 |map(k v:Ty)
 |val|prp|node|edg|graph|opn|delta|term|dot|arrow|item|query|cnt|hold|plan|entry|disk|store|guest|desk|answer|grant|request|pair|envr
 deriving Inhabited
@[reducible] def Ty.den:Ty->Type
  |.i64|.u8|.u32|.u64|.i32=>Int
  |.bool=>Bool
  |.str=>Bt
  |.lst t=>List t.den
  |.ptr t=>t.den
  |.two t=>t.den×t.den
  |.map k v=>List (k.den×v.den)
  |.val=>Val|.prp=>Prp|.node=>Node|.edg=>Edg|.graph=>Graph|.opn=>Opn|.delta=>Delta|.term=>Term|.dot=>Dot|.arrow=>Arrow|.item=>Item
  |.query=>Query|.cnt=>Cnt|.hold=>Hold|.plan=>Plan|.entry=>Entry|.disk=>Disk|.store=>Store|.guest=>Guest|.desk=>Desk|.answer=>Answer
  |.grant=>Grant|.request=>Request|.pair=>Pair|.envr=>Envr
def Ty.sz0:Ty->Nat
 |.ptr _|.two _|.map _ _=>1
 |.i64|.u8|.u32|.u64|.i32|.bool|.str|.lst _=>1
 |.val=>4|.prp=>5|.node=>3|.edg=>5|.graph=>3|.opn=>11|.delta=>6|.term=>7|.dot=>2|.arrow=>4|.item=>9
 |.query=>5|.cnt=>2|.hold=>6|.plan=>10|.entry=>7|.disk=>2|.store=>8|.guest=>4|.desk=>10|.answer=>5
 |.grant=>2|.request=>4|.pair=>2|.envr=>4
def Ty.sz:Ty->Nat
 |.ptr _=>1
 |.two t=>t.sz0+t.sz0
 |t=>t.sz0
theorem Ty.sz0_pos (t:Ty):0<t.sz0:=by cases t<;>simp[Ty.sz0]
theorem Ty.sz_pos (t:Ty):0<t.sz:=by
 cases t<;>first|(simp[Ty.sz,Ty.sz0];done)| (have:=Ty.sz0_pos;simp only[Ty.sz];have:=Ty.sz0_pos ‹Ty›;omega)
def Ty.no:Ty->Nat
 |.i64=>0|.u8=>1|.u32=>2|.u64=>3|.i32=>4|.bool=>5|.str=>6|.lst _=>7
 |.val=>8|.prp=>9|.node=>10|.edg=>11|.graph=>12|.opn=>13|.delta=>14|.term=>15|.dot=>16|.arrow=>17|.item=>18
 |.query=>19|.cnt=>20|.hold=>21|.plan=>22|.entry=>23|.disk=>24|.store=>25|.guest=>26|.desk=>27|.answer=>28
 |.grant=>29|.request=>30|.pair=>31|.ptr _=>32|.two _=>33|.map _ _=>34|.envr=>35
def Ty.same:Ty->Ty->Bool
 |.lst a,.lst b=>Ty.same a b
 |.ptr a,.ptr b=>Ty.same a b
 |.two a,.two b=>Ty.same a b
 |.map a c,.map b d=>Ty.same a b&&Ty.same c d
 |a,b=>Nat.beq a.no b.no
theorem Ty.no_inj {a b:Ty}(h:a.no=b.no)(hl:∀t,a≠ .lst t)(hp:∀t,a≠ .ptr t)(h2:∀t,a≠ .two t)(hm:∀t u,a≠ .map t u):a=b:=by
 cases a<;>first|(exfalso;exact hl _ rfl)| (exfalso;exact hp _ rfl)| (exfalso;exact h2 _ rfl)| (exfalso;exact hm _ _ rfl)| (cases b<;>first|rfl|(simp[Ty.no]at h))
theorem Ty.same_eq:∀{a b:Ty},Ty.same a b=true->a=b:=by
 intro a
 induction a with
 |lst a ih=>
  intro b h;cases b with
  |lst b=>rw[ih (by simpa[Ty.same]using h)]
  |_=>simp[Ty.same,Ty.no]at h
 |ptr a ih=>
  intro b h;cases b with
  |ptr b=>rw[ih (by simpa[Ty.same]using h)]
  |_=>simp[Ty.same,Ty.no]at h
 |two a ih=>
  intro b h;cases b with
  |two b=>rw[ih (by simpa[Ty.same]using h)]
  |_=>simp[Ty.same,Ty.no]at h
 |map a c iha ihc=>
  intro b h;cases b with
  |map b d=>
   have h' :(Ty.same a b&&Ty.same c d)=true:=h;rw[r2i]at h';rw[iha h'.1,ihc h'.2]
  |_=>simp[Ty.same,Ty.no]at h
 |_=>
  intro b h;refine Ty.no_inj ?_ (λt e=>by cases e) (λt e=>by cases e) (λt e=>by cases e) (λt u e=>by cases e);cases b<;>exact r2h h
def castL(a b:Ty)(xs:List a.den):Option (List b.den):=
 match h:Ty.same a b with
 |true=>some (Ty.same_eq h▸xs)
 |false=>none
theorem castL_eq{a b:Ty}{xs:List a.den}{ys:List b.den}(h:castL a b xs=some ys):∃e:a=b,ys=e▸xs:=by
 unfold castL at h;split at h
 ·rename_i he
  cases h;exact⟨Ty.same_eq he,rfl⟩
 ·cases h
def m2f{a b c d:Ty}(e1:a=b)(e2:c=d)(xs:List (a.den×c.den)):List (b.den×d.den):=by
 subst e1;subst e2;exact xs
def castM(a b c d:Ty)(xs:List (a.den×c.den)):Option (List (b.den×d.den)):=
 match h1:Ty.same a b,h2:Ty.same c d with
 |true,true=>some (m2f (Ty.same_eq h1) (Ty.same_eq h2) xs)
 |_,_=>none
theorem castM_eq{a b c d:Ty}{xs:List (a.den×c.den)}{ys:List (b.den×d.den)}(h:castM a b c d xs=some ys):∃(e1:a=b) (e2:c=d),ys=m2f e1 e2 xs:=by
 unfold castM at h;split at h
 ·rename_i h1 h2
  cases h;exact⟨Ty.same_eq h1,Ty.same_eq h2,rfl⟩
 ·cases h
end Ev

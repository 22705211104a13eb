import Derived.Test.YtnaeiccibhdknaaGreatDoorEvRune
set_option linter.unusedSimpArgs false
set_option linter.unusedVariables false
namespace Esp
open Go
variable [Tabs]
def ix{α:Type}(xs:List α)(j:Int):Option α:=if 0<=j then xs[j.toNat]? else none
def sat(s:Bt)(j:Int):Option Int:=if 0<=j then(s.data.toList[j.toNat]?).map λb=>(b.toNat:Int)else none
def ssl(s:Bt)(p q:Int):Option Bt:=if 0<=p/\p<=q/\q<=(s.size:Int)then some (s.extract p.toNat q.toNat)else none
def lsl{α:Type}(xs:List α)(p q:Int):Option (List α):=if 0<=p/\p<=q/\q<=(xs.length:Int)then some ((xs.drop p.toNat).take (q - p).toNat)else none
def cat? (a b:Bt):Option Bt:=if a.size+b.size<=9223372036854775807 then some (a++b)else none
def nz? (y:Int):Option Int:=if y=0 then none else some y
def h1x(y:Int):Option Int:=if 0<=y then some y else none
def str? (l:List Int):Option Bt:=if k0z l=true then some (strI l)else none
def ck{ρ:Type}(b:Bool)(k:Option ρ):Option ρ:=bif b then k else none
omit [Tabs]in
theorem e1z{ρ:Type}{b:Bool}{k:Option ρ}{r:ρ}(h:ck b k=some r):b=true/\k=some r:=by
 cases b with
 |true=>exact⟨rfl,h⟩
 |false=>cases h
section
variable{ρ:Type}
def o1y(P:Program)(fr:List (Nat×AV))(d:Nat)(t:TypeId)(x i:Operand)(k:Eff->Option ρ):Option ρ:=
 match f0c P t with
 |some (_,e)=>match ev fr x with
  |.cell (.d (.nl τ xs))=>match ev fr i with
   |.cell (.d (.sc (.int _ j)))=>bif Nat.beq e τ.sz then(ix xs j).bind λy=>k (.put d (.cell (.d (.rp (cells τ y)))))else none
   |_=>none
  |_=>none
 |none=>none
def kSat(P:Program)(fr:List (Nat×AV))(d:Nat)(t:TypeId)(x i:Operand)(k:Eff->Option ρ):Option ρ:=
 match P.underlying t with
 |some .string=>match ev fr x with
  |.cell (.d (.sc (.string s)))=>match ev fr i with
   |.cell (.d (.sc (.int _ j)))=>(sat s j).bind λb=>k (.put d (.cell (.d (.sc (.int .u8 b)))))
   |_=>none
  |_=>none
 |_=>none
def c1v(P:Program)(fr:List (Nat×AV))(d:Nat)(t:TypeId)(x:Operand)(lo hi:Option Operand)(k:Eff->Option ρ):Option ρ:=
 match ev fr x with
 |.cell (.d (.sc (.string s)))=>match P.underlying t with
  |some .string=>match bndV fr lo 0 with
   |some p=>match bndV fr hi s.size with
    |some q=>(ssl s p q).bind λr=>k (.put d (.cell (.d (.sc (.string r)))))
    |none=>none
   |none=>none
  |_=>none
 |.cell (.d (.nl τ xs))=>match f0c P t with
  |some (_,e)=>match bndV fr lo 0 with
   |some p=>match bndV fr hi xs.length with
    |some q=>bif Nat.beq e τ.sz then(lsl xs p q).bind λr=>k (.put d (.cell (.d (.nl τ r))))else none
    |none=>none
   |none=>none
  |none=>none
 |_=>none
def o0x(P:Program)(t:TypeId):Bool:=
 match P.underlying t with
 |some .string=>true
 |_=>false
def i2s(P:Program)(fr:List (Nat×AV))(d:Nat)(src dst:TypeId)(x:Operand)(k:Eff->Option ρ):Option ρ:=
 match ev fr x with
 |.cell (.d (.sc (.string s)))=>bif o0x P src&&e0q P dst then k (.put d (.cell (.d (.nl .u8 (d0d s)))))else bif o0x P src&&l0m P dst then k (.put d (.cell (.d (.nl .i32 (b0b s)))))else none
 |.cell (.d (.nl .u8 l))=>bif o0x P dst&&e0q P src then(str? l).bind λr=>k (.put d (.cell (.d (.sc (.string r)))))else none
 |_=>none
def k1s(i j:IntKind):Bool:=decide (i=j)
def kBin(fr:List (Nat×AV))(d:Nat)(op:BinOp)(x y:Operand)(k:Eff->Option ρ):Option ρ:=
 match scV (ev fr x)with
 |some (.int i a)=>match scV (ev fr y)with
  |some (.int i2 b)=>match op with
   |.quo=>bif k1s i i2 then(nz? b).bind λb=>k (.put d (.cell (.d (.sc (.int i (bquo i a b))))))else none
   |.rem=>bif k1s i i2 then(nz? b).bind λb=>k (.put d (.cell (.d (.sc (.int i (brem i a b))))))else none
   |.shl=>(h1x b).bind λb=>k (.put d (.cell (.d (.sc (.int i (bshl i a b))))))
   |.shr=>(h1x b).bind λb=>k (.put d (.cell (.d (.sc (.int i (bshr i a b))))))
   |_=>none
  |_=>none
 |some (.string a)=>match scV (ev fr y)with
  |some (.string b)=>match op with
   |.add=>(cat? a b).bind λr=>k (.put d (.cell (.d (.sc (.string r)))))
   |_=>none
  |_=>none
 |_=>none
def lsl3{α:Type}(xs:List α)(p q m:Int):Option (List α):=if 0<=p/\p<=q/\q<=m/\m<=(xs.length:Int)then some ((xs.drop p.toNat).take (q - p).toNat)else none
def cnt? (j:Int):Option Nat:=if 0<=j then some j.toNat else none
def k2k:Operand->Operand->Bool
 |.tmp a,.tmp b=>Nat.beq a b
 |.const (.int _ a),.const (.int _ b)=>decide (a=b)
 |_,_=>false
def f1f(P:Program)(fr:List (Nat×AV))(d:Nat)(t:TypeId)(x:Operand)(lo:Option Operand)(hi mx:Operand)(k:Eff->Option ρ):Option ρ:=
 match ev fr x with
 |.cell (.d (.nl τ xs))=>match f0c P t with
  |some (_,e)=>match bndV fr lo 0 with
   |some p=>match bndV fr (some hi) 0 with
    |some q=>match bndV fr (some mx) 0 with
     |some m=>bif Nat.beq e τ.sz then(lsl3 xs p q m).bind λr=>k (.put d (.cell (.d (.nl τ r))))else none
     |none=>none
    |none=>none
   |none=>none
  |none=>none
 |_=>none
def h2c(P:Program)(T:List (TypeId×Ev.Ty))(fr:List (Nat×AV))(d:Nat)(t:TypeId)(n m:Operand)(k:Eff->Option ρ):Option ρ:=
 match rowB P t with
 |some (te,e,bytes)=>match tyOf T te with
  |some τ=>match k0g P te with
   |some z=>match rd τ (z.map .sc)with
    |some zv=>match ev fr n with
     |.cell (.d (.sc (.int _ j)))=>match ev fr m with
      |.cell (.d (.sc (.int _ _)))=>bif Nat.beq e τ.sz&&Nat.beq z.length τ.sz&&k2k n m then(cnt? j).bind λc=>ck (room c bytes) (k (.new d (.na te τ (List.replicate c zv)) d (.cell (.own d))))else none
      |_=>none
     |_=>none
    |none=>none
   |none=>none
  |none=>none
 |none=>none
def kLow(P:Program)(N:Nat)(st:ASt)(o:Oper)(k:Eff->Option ρ):Option ρ:=
 match g1z P N o st.low with
 |some (.put d (.cell (.d (.sc v))))=>k (.put d (.cell (.d (.sc v))))
 |_=>none
def cut? {α:Type}(xs:List α)(q:Int):Option (List α):=if 0<=q/\q<=(xs.length:Int)then some (xs.take q.toNat)else none
def g1p(P:Program)(st:ASt)(d:Nat)(t:TypeId)(kk:Nat)(i:Operand)(k:Eff->Option ρ):Option ρ:=
 match f0c P t with
 |some (_,e)=>match lkO st.ob kk with
  |.na _ τ xs=>match ev st.fr i with
   |.cell (.d (.sc (.int _ j)))=>bif Nat.beq e τ.sz then(ix xs j).bind λ_=>k (.put d (.cell (.elt kk τ.sz j.toNat 0)))else none
   |_=>none
  |_=>none
 |none=>none
def t1a(P:Program)(st:ASt)(d:Nat)(t:TypeId)(p:Operand)(k:Eff->Option ρ):Option ρ:=
 match ev st.fr p with
 |.cell (.elt kk e j off)=>match lkO st.ob kk with
  |.na _ τ xs=>bif Nat.beq e τ.sz&&Nat.ble off τ.sz then(xs[j]?).bind λy=>match f0v P t ((cells τ y).drop off)with
   |some x=>k (.put d x)
   |none=>none
   else none
  |_=>none
 |_=>none
def f1r(P:Program)(st:ASt)(t:TypeId)(p x:Operand)(k:Eff->Option ρ):Option ρ:=
 match ev st.fr p with
 |.cell (.elt kk e j off)=>match lkO st.ob kk with
  |.na te τ xs=>match cellsOf st.ob (ev st.fr x)with
   |some vs=>match allD vs with
    |some ds=>match d0t P t with
     |some s=>bif Nat.beq e τ.sz&&Nat.beq ds.length s&&Nat.ble (off+ds.length) τ.sz then(xs[j]?).bind λy=>match rd τ (b0a (cells τ y) off ds)with
      |some y' =>k (.upd kk (.na te τ (xs.set j y')))
      |none=>none
      else none
     |none=>none
    |none=>none
   |none=>none
  |_=>none
 |_=>none
def f1j(P:Program)(st:ASt)(d:Nat)(t:TypeId)(kk:Nat)(hi:Operand)(k:Eff->Option ρ):Option ρ:=
 match f0c P t with
 |some (_,e)=>match lkO st.ob kk with
  |.na te τ xs=>match bndV st.fr (some hi) xs.length with
   |some q=>bif Nat.beq e τ.sz&&Nat.blt kk 2000000 then(cut? xs q).bind λr=>k (.new kk (.na te τ r) d (.cell (.own kk)))else none
   |none=>none
  |_=>none
 |none=>none
def e2w(P:Program)(st:ASt)(d:Nat)(t:TypeId)(kk:Nat)(lo:Operand)(k:Eff->Option ρ):Option ρ:=
 match f0c P t with
 |some (_,e)=>match lkO st.ob kk with
  |.na _ τ xs=>match bndV st.fr (some lo) 0 with
   |some q=>bif Nat.beq e τ.sz then ck (decide (0<=q/\q<=(xs.length:Int))) (k (.put d (.cell (.osl kk τ.sz q.toNat (xs.length - q.toNat)))))else none
   |none=>none
  |_=>none
 |none=>none
def w1k(P:Program)(st:ASt)(t:TypeId)(x:Operand)(k:Eff->Option ρ):Option ρ:=
 match ev st.fr x with
 |.cell (.osl kk e lo m)=>match lkO st.ob kk with
  |.na a7 τ xs=>match f0c P t with
   |some (te,e2)=>match k0g P te with
    |some z=>match rd τ (z.map .sc)with
     |some zv=>bif Nat.beq e τ.sz&&Nat.beq e2 τ.sz&&Nat.beq z.length τ.sz then ck (Nat.ble (lo+m) xs.length) (k (.upd kk (.na a7 τ (clrL xs lo m zv))))else none
     |none=>none
    |none=>none
   |none=>none
  |_=>none
 |_=>none
def x1r(P:Program)(T:List (TypeId×Ev.Ty))(st:ASt)(d:Nat)(t:TypeId)(cs:List D)(i:Operand)(k:Eff->Option ρ):Option ρ:=
 match P.underlying t with
 |some (.array n e)=>match tyOf T e with
  |some τ=>match d0t P e with
   |some s=>match rds τ n cs with
    |some xs=>match ev st.fr i with
     |.cell (.d (.sc (.int _ j)))=>bif Nat.beq s τ.sz then(ix xs j).bind λy=>match f0v P e (cells τ y)with
      |some z=>k (.put d z)
      |none=>none
      else none
     |_=>none
    |none=>none
   |none=>none
  |none=>none
 |_=>none
def w1t:AV->Option (List D)
 |.aggD cs=>some cs
 |_=>none
def p1w:AV->Option (List AC)
 |.agg cs=>some cs
 |_=>none
def a2k(P:Program)(d:Nat)(e s:Nat)(cs:List AC)(j:Int)(k:Eff->Option ρ):(m q:Nat)->Option ρ
 | 0,_=>none
 |m+1,q=>bif j==(q:Int)then(match k0j P e (cs.drop (q*s))with
  |some z=>bif z.plain then k (.put d z)else none
  |none=>none)else a2k P d e s cs j k m (q+1)
def r1o(P:Program)(st:ASt)(d:Nat)(t:TypeId)(cs:List AC)(i:Operand)(k:Eff->Option ρ):Option ρ:=
 match P.underlying t with
 |some (.array n e)=>match d0t P e with
  |some s=>match ev st.fr i with
   |.cell (.d (.sc (.int _ j)))=>a2k P d e s cs j k n 0
   |_=>none
  |none=>none
 |_=>none
def f2p(P:Program)(st:ASt)(d:Nat)(t:TypeId)(lo hi:Option Operand)(k:Eff->Option ρ):Option ρ:=
 match f0c P t with
 |some _=>match bndV st.fr lo 0 with
  |some p=>match bndV st.fr hi 0 with
   |some q=>ck (decide (p=0/\q=0)) (k (.put d (.cell (.d (.sc (.slice none 0 0))))))
   |none=>none
  |none=>none
 |none=>none
def t0u:AV->Bool
 |.cell (.d (.sc (.slice none 0 0)))=>true
 |_=>false
def j2r(P:Program)(T:List (TypeId×Ev.Ty))(st:ASt)(d:Nat)(t tn:TypeId)(s y:Operand)(k:Eff->Option ρ):Option ρ:=
 match rowB P t with
 |some (te,e,bytes)=>match tyOf T te with
  |some τ=>match k0g P te with
   |some z=>match rd τ (z.map .sc)with
    |some zv=>match ev st.fr y with
     |.cell (.d (.sc (.int _ j)))=>bif t0u (ev st.fr s)&&Nat.beq e τ.sz&&Nat.beq z.length τ.sz then ck (decide (0<j)&&room j.toNat bytes) (k (.new d (.na te τ (List.replicate j.toNat zv)) d (.cell (.own d))))else none
     |_=>none
    |none=>none
   |none=>none
  |none=>none
 |none=>none
def t0w(P:Program)(t:TypeId):Bool:=
 match P.underlying t with
 |some (.int _)=>true
 |_=>false
def s1f:AV->Option Nat
 |.cell (.own k)=>some k
 |_=>none
def s1e(P:Program)(st:ASt)(d:Nat)(t:TypeId)(kk off:Nat)(i:Operand)(k:Eff->Option ρ):Option ρ:=
 match lkO st.ob kk with
 |.box _ _=>match P.underlying t with
  |some (.array n e)=>match d0t P e with
   |some s=>match ev st.fr i with
    |.cell (.d (.sc (.int _ (.ofNat q))))=>bif Nat.blt q n then k (.put d (.cell (.ptr kk (off+q*s))))else none
    |_=>none
   |none=>none
  |_=>none
 |_=>none
def x1h:AV->Option (Nat×Nat)
 |.cell (.ptr k off)=>some (k,off)
 |_=>none
def y1g(P:Program)(N:Nat)(T:List (TypeId×Ev.Ty))(st:ASt)(o:Oper)(k:Eff->Option ρ):Option ρ:=
 match o.dst with
 |none=>match o.op with
  |.store t p x=>f1r P st t p x k
  |.call ⟨.builtin .clear,⟨[x]⟩,⟨[t]⟩⟩=>w1k P st t x k
  |.mapUpdate t m x v=>(sPut P st t m x v).bind k
  |.insert t m x v=>(sPut P st t m x v).bind k
  |.entryStore _ m s v=>kEnt st m s v k
  |_=>none
 |some d=>bif Nat.blt d N then match o.op with
  |.load t p=>t1a P st d t p k
  |.indexAddr t x i=>match s1f (ev st.fr x)with
   |some kk=>g1p P st d t kk i k
   |none=>match x1h (ev st.fr x)with
    |some p=>s1e P st d t p.1 p.2 i k
    |none=>o1y P st.fr d t x i k
  |.slice t x none (some hi) none=>bif t0u (ev st.fr x)then f2p P st d t none (some hi) k else match s1f (ev st.fr x)with
   |some kk=>f1j P st d t kk hi k
   |none=>c1v P st.fr d t x none (some hi) k
  |.slice t x (some lo) none none=>match s1f (ev st.fr x)with
   |some kk=>e2w P st d t kk lo k
   |none=>c1v P st.fr d t x (some lo) none k
  |.index t x i=>match w1t (ev st.fr x)with
   |some cs=>x1r P T st d t cs i k
   |none=>match p1w (ev st.fr x)with
    |some cs=>r1o P st d t cs i k
    |none=>kSat P st.fr d t x i k
  |.slice t x lo hi none=>c1v P st.fr d t x lo hi k
  |.slice t x lo (some hi) (some mx)=>f1f P st.fr d t x lo hi mx k
  |.makeSlice t n m=>h2c P T st.fr d t n m k
  |.convert s t x=>i2s P st.fr d s t x k
  |.binOp op _ x y _=>kBin st.fr d op x y k
  |.call ⟨.builtin .append,⟨[s,y]⟩,⟨[t,tn]⟩⟩=>bif t0w P tn then j2r P T st d t tn s y k else match c2m P N T st o with
   |some p=>ck (room p.zs.length p.bytes) (k p.eff)
   |none=>kLow P N st o k
  |.call ⟨.builtin .len,⟨[x]⟩,⟨[t]⟩⟩=>match f2q P N st (some d) t x with
   |some e=>k e
   |none=>kLow P N st o k
  |.call _=>match c2m P N T st o with
   |some p=>ck (room p.zs.length p.bytes) (k p.eff)
   |none=>kLow P N st o k
  |.mapEntry t m x=>(sEnt P N st (some d) t m x).bind k
  |.makeMap t none=>(r1n P N T (some d) t).bind k
  |.lookup t m x b=>(i2u P N st (some d) t m x b).bind k
  |_=>none
  else none
def c2a(st:ASt)(o:Oper):Bool:=
 match o.op with
 |.binOp op _ x y _=>match op with
  |.shl|.shr=>match y with
   |.const _=>false
   |_=>true
  |.quo|.rem=>match y with
   |.const _=>false
   |_=>true
  |.add=>match ev st.fr x with
   |.cell (.d (.sc (.string _)))=>true
   |_=>false
  |_=>false
 |_=>false
def k2x(P:Program)(o:Oper):Bool:=
 match o.op with
 |.call ⟨.builtin .append,_,⟨[_,tn]⟩⟩=>t0w P tn
 |_=>false
def a2e(P:Program)(N:Nat)(ops:Array Oper)(o:Oper)(j:Nat)(want:Bool)(st:ASt):Option Eff:=
 match t0d ops j with
 |some g=>bif c2a ⟨unwF (p0h st.fr 8 g want) st.fr,st.ob⟩ o then none else b2z P N ops o j want st
 |none=>none
omit [Tabs]in
theorem l1i{P:Program}{N:Nat}{ops:Array Oper}{o:Oper}{j:Nat}{want:Bool}{st:ASt}{e:Eff}(h:a2e P N ops o j want st=some e):b2z P N ops o j want st=some e:=by
 unfold a2e at h;split at h
 ·rename_i g _
  cases hb:c2a ⟨unwF (p0h st.fr 8 g want) st.fr,st.ob⟩ o with
  |true=>rw[hb]at h;cases h
  |false=>rw[hb]at h;exact h
 ·cases h
def kOp(P:Program)(N:Nat)(T:List (TypeId×Ev.Ty))(st:ASt)(o:Oper)(k:Eff->Option ρ):Option ρ:=
 bif c2a st o || k2x P o then y1g P N T st o k else
 match g1z P N o st with
 |some e=>match upN T e with
  |some e' =>k e'
  |none=>none
 |none=>y1g P N T st o k
variable{P:Program}{N:Nat}{T:List (TypeId×Ev.Ty)}{ops:Array Oper}{st:ASt}{i d:Nat}{k:Eff->Option ρ}{r:ρ}
theorem b1i{t ty:TypeId}{x ii:Operand}{pos:String}{after:Array Edge}{guard:Option (Nat×Bool)}(ho:opK ops st.fr i=some ⟨some d,.indexAddr t x ii,ty,pos,after,guard⟩)(hd:Nat.blt d N=true)
  (h:o1y P st.fr d t x ii k=some r):∃e,IEff P N ops i st e/\k e=some r:=by
 unfold o1y at h;split at h
 ·rename_i te e ht
  split at h
  ·rename_i τ xs hx
   split at h
   ·rename_i kk j hj
    cases hb:Nat.beq e τ.sz with
    |false=>rw[hb]at h;cases h
    |true=>
     rw[hb]at h;have:=r2h hb;subst this;simp only[u2j,r2m]at h;obtain⟨y,h1,h2⟩:=h;unfold ix at h1;split at h1
     ·rename_i h0
      exact⟨_,.indexN ho hx hj ht hd h0 h1,h2⟩
     ·cases h1
   ·cases h
  ·cases h
 ·cases h
theorem m1g{t ty:TypeId}{x ii:Operand}{pos:String}{after:Array Edge}{guard:Option (Nat×Bool)}(ho:opK ops st.fr i=some ⟨some d,.index t x ii,ty,pos,after,guard⟩)(hd:Nat.blt d N=true)
  (h:kSat P st.fr d t x ii k=some r):∃e,IEff P N ops i st e/\k e=some r:=by
 unfold kSat at h;split at h
 ·rename_i ht
  split at h
  ·rename_i s hx
   split at h
   ·rename_i kk j hj
    simp only[r2m]at h;obtain⟨y,h1,h2⟩:=h;unfold sat at h1;split at h1
    ·rename_i h0
     simp only[t2f]at h1;obtain⟨b,h3,rfl⟩:=h1;exact⟨_,.strIndex ho hx hj ht hd h0 h3,h2⟩
    ·cases h1
   ·cases h
  ·cases h
 ·cases h
theorem j0c{t ty:TypeId}{x:Operand}{lo hi:Option Operand}{pos:String}{after:Array Edge}{guard:Option (Nat×Bool)}(ho:opK ops st.fr i=some ⟨some d,.slice t x lo hi none,ty,pos,after,guard⟩)(hd:Nat.blt d N=true)
  (h:c1v P st.fr d t x lo hi k=some r):∃e,IEff P N ops i st e/\k e=some r:=by
 unfold c1v at h;split at h
 ·rename_i s hx
  split at h
  ·rename_i ht
   split at h
   ·rename_i p hp
    split at h
    ·rename_i q hq
     simp only[r2m]at h;obtain⟨y,h1,h2⟩:=h;unfold ssl at h1;split at h1
     ·rename_i h0
      cases h1;exact⟨_,.strSlice ho hx ht hp hq hd h0.1 h0.2.1 h0.2.2 rfl,h2⟩
     ·cases h1
    ·cases h
   ·cases h
  ·cases h
 ·rename_i τ xs hx
  split at h
  ·rename_i te e ht
   split at h
   ·rename_i p hp
    split at h
    ·rename_i q hq
     cases hb:Nat.beq e τ.sz with
     |false=>rw[hb]at h;cases h
     |true=>
      rw[hb]at h;have:=r2h hb;subst this;simp only[u2j,r2m]at h;obtain⟨y,h1,h2⟩:=h;unfold lsl at h1;split at h1
      ·rename_i h0
       cases h1;exact⟨_,.sliceN ho hx ht hp hq hd h0.1 h0.2.1 h0.2.2,h2⟩
      ·cases h1
    ·cases h
   ·cases h
  ·cases h
 ·cases h
omit [Tabs]in
theorem q0u{t:TypeId}(h:o0x P t=true):P.underlying t=some .string:=by
 unfold o0x at h;split at h
 ·assumption
 ·cases h
theorem h1q{src dst ty:TypeId}{x:Operand}{pos:String}{after:Array Edge}{guard:Option (Nat×Bool)}(ho:opK ops st.fr i=some ⟨some d,.convert src dst x,ty,pos,after,guard⟩)(hd:Nat.blt d N=true)
  (h:i2s P st.fr d src dst x k=some r):∃e,IEff P N ops i st e/\k e=some r:=by
 unfold i2s at h;split at h
 ·rename_i s hx
  cases hb:(o0x P src&&e0q P dst)with
  |false=>
   rw[hb,u2k]at h;cases hb2:(o0x P src&&l0m P dst)with
   |false=>rw[hb2]at h;cases h
   |true=>
    rw[hb2]at h;simp only[r2i]at hb2;exact⟨_,.runesOf ho hx (q0u hb2.1) hb2.2 hd,h⟩
  |true=>
   rw[hb]at h;simp only[r2i]at hb;exact⟨_,.bytesOfN ho hx (q0u hb.1) hb.2 hd,h⟩
 ·rename_i l hx
  cases hb:(o0x P dst&&e0q P src)with
  |false=>rw[hb]at h;cases h
  |true=>
   rw[hb]at h;simp only[r2i]at hb;simp only[u2j,r2m]at h;obtain⟨y,h1,h2⟩:=h;unfold str? at h1;split at h1
   ·rename_i h0
    cases h1;exact⟨_,.ofBytesN ho hx (q0u hb.1) hb.2 hd h0,h2⟩
   ·cases h1
 ·cases h
theorem m1c{op:BinOp}{t u ty:TypeId}{x y:Operand}{pos:String}{after:Array Edge}{guard:Option (Nat×Bool)}(ho:opK ops st.fr i=some ⟨some d,.binOp op t x y u,ty,pos,after,guard⟩)(hd:Nat.blt d N=true)
  (h:kBin st.fr d op x y k=some r):∃e,IEff P N ops i st e/\k e=some r:=by
 unfold kBin at h;split at h
 ·rename_i ik a hx
  split at h
  ·rename_i ik2 b hy
   have hq:qBin N ops i st=some (d,op,.int ik a,.int ik2 b):=by simp[qBin,ho,hx,hy,hd]
   split at h
   ·cases hk:k1s ik ik2 with
    |false=>rw[hk]at h;cases h
    |true=>
     rw[hk,u2j]at h;have:=of_decide_eq_true hk;subst this;simp only[r2m]at h;obtain⟨y,h1,h2⟩:=h;unfold nz? at h1;split at h1
     ·cases h1
     ·cases h1
      exact⟨_,.qquo hq (by assumption),h2⟩
   ·cases hk:k1s ik ik2 with
    |false=>rw[hk]at h;cases h
    |true=>
     rw[hk,u2j]at h;have:=of_decide_eq_true hk;subst this;simp only[r2m]at h;obtain⟨y,h1,h2⟩:=h;unfold nz? at h1;split at h1
     ·cases h1
     ·cases h1
      exact⟨_,.qrem hq (by assumption),h2⟩
   ·simp only[r2m]at h
    obtain⟨y,h1,h2⟩:=h;unfold h1x at h1;split at h1
    ·cases h1
     exact⟨_,.qshl hq (by assumption),h2⟩
    ·cases h1
   ·simp only[r2m]at h
    obtain⟨y,h1,h2⟩:=h;unfold h1x at h1;split at h1
    ·cases h1
     exact⟨_,.qshr hq (by assumption),h2⟩
    ·cases h1
   ·cases h
  ·cases h
 ·rename_i a hx
  split at h
  ·rename_i b hy
   have hq:qBin N ops i st=some (d,op,.string a,.string b):=by simp[qBin,ho,hx,hy,hd]
   split at h
   ·simp only[r2m]at h
    obtain⟨y,h1,h2⟩:=h;unfold cat? at h1;split at h1
    ·cases h1
     exact⟨_,.qcat hq (by assumption) rfl,h2⟩
    ·cases h1
   ·cases h
  ·cases h
 ·cases h
theorem v0w{t ty:TypeId}{x:Operand}{lo:Option Operand}{hi mx:Operand}{pos:String}{after:Array Edge}{guard:Option (Nat×Bool)}(ho:opK ops st.fr i=some ⟨some d,.slice t x lo (some hi) (some mx),ty,pos,after,guard⟩)(hd:Nat.blt d N=true)
  (h:f1f P st.fr d t x lo hi mx k=some r):∃e,IEff P N ops i st e/\k e=some r:=by
 unfold f1f at h;split at h
 ·rename_i τ xs hx
  split at h
  ·rename_i te e ht
   split at h
   ·rename_i p hp
    split at h
    ·rename_i q hq
     split at h
     ·rename_i m hm
      cases hb:Nat.beq e τ.sz with
      |false=>rw[hb]at h;cases h
      |true=>
       rw[hb]at h;have:=r2h hb;subst this;simp only[u2j,r2m]at h;obtain⟨y,h1,h2⟩:=h;unfold lsl3 at h1;split at h1
       ·rename_i h0
        cases h1;exact⟨_,.slice3N ho hx ht hp hq hm hd h0.1 h0.2.1 h0.2.2.1 h0.2.2.2,h2⟩
       ·cases h1
     ·cases h
    ·cases h
   ·cases h
  ·cases h
 ·cases h
theorem h1y{t ty:TypeId}{n m:Operand}{pos:String}{after:Array Edge}{guard:Option (Nat×Bool)}(ho:opK ops st.fr i=some ⟨some d,.makeSlice t n m,ty,pos,after,guard⟩)(hd:Nat.blt d N=true)
  (h:h2c P T st.fr d t n m k=some r):∃e,IEff P N ops i st e/\k e=some r:=by
 unfold h2c at h;split at h
 ·rename_i te e bytes ht
  split at h
  ·rename_i τ hτ
   split at h
   ·rename_i z hz
    split at h
    ·rename_i zv fC
     split at h
     ·rename_i k1 j hn
      split at h
      ·rename_i k2 j2 hm
       cases hb:(Nat.beq e τ.sz&&Nat.beq z.length τ.sz&&k2k n m)with
       |false=>rw[hb]at h;cases h
       |true=>
        rw[hb]at h;simp only[r2i]at hb;have:=r2h hb.1.1;subst this;simp only[u2j,r2m]at h;obtain⟨c,h1,h2⟩:=h;unfold cnt? at h1;split at h1
        ·rename_i h0
         cases h1;obtain⟨h3,h4⟩:=e1z h2;have hj:j2=j:=by
          have ho2:=hb.2;unfold k2k at ho2;split at ho2
          ·rw[r2h ho2,hm]at hn
           cases hn;rfl
          ·simp only[decide_eq_true_eq]at ho2
           subst ho2;simp only[ev]at hn hm;cases hn;cases hm;rfl
          ·cases ho2
         subst hj;exact⟨_,.makeN ho hn hm ht hz (r2h hb.1.2) fC hd h0 h3,h4⟩
        ·cases h1
      ·cases h
     ·cases h
    ·cases h
   ·cases h
  ·cases h
 ·cases h
theorem o0k{o:Oper}(ho:opK ops st.fr i=some o)(h:kLow P N st o k=some r):∃e,IEff P N ops i st e/\k e=some r:=by
 unfold kLow at h;split at h
 ·rename_i d v hs
  exact⟨_,.ofLow (.of_opK (by rw[d0p];exact ho) (z0y hs)),h⟩
 ·cases h
omit [Tabs]in
theorem w0c{x:AV}{kk:Nat}(h:s1f x=some kk):x=.cell (.own kk):=by
 unfold s1f at h;split at h
 ·cases h;rfl
 ·cases h
theorem x0j{t ty:TypeId}{x ii:Operand}{pos:String}{after:Array Edge}{guard:Option (Nat×Bool)}{kk:Nat}(ho:opK ops st.fr i=some ⟨some d,.indexAddr t x ii,ty,pos,after,guard⟩)(hd:Nat.blt d N=true)(hx:ev st.fr x=.cell (.own kk))
  (h:g1p P st d t kk ii k=some r):∃e,IEff P N ops i st e/\k e=some r:=by
 unfold g1p at h;split at h
 ·rename_i te e ht
  split at h
  ·rename_i a7 τ xs hk
   split at h
   ·rename_i q j hj
    cases hb:Nat.beq e τ.sz with
    |false=>rw[hb]at h;cases h
    |true=>
     rw[hb]at h;have:=r2h hb;subst this;simp only[u2j,r2m]at h;obtain⟨y,h1,h2⟩:=h;unfold ix at h1;split at h1
     ·rename_i h0
      have:=(r2p.1 h1).1;exact⟨_,.indexOwnN ho hx hk hj ht hd h0 (by omega),h2⟩
     ·cases h1
   ·cases h
  ·cases h
 ·cases h
theorem z0v{t ty:TypeId}{p:Operand}{pos:String}{after:Array Edge}{guard:Option (Nat×Bool)}(ho:opK ops st.fr i=some ⟨some d,.load t p,ty,pos,after,guard⟩)(hd:Nat.blt d N=true)
  (h:t1a P st d t p k=some r):∃e,IEff P N ops i st e/\k e=some r:=by
 unfold t1a at h;split at h
 ·rename_i kk e j off hp
  split at h
  ·rename_i te τ xs hk
   cases hb:(Nat.beq e τ.sz&&Nat.ble off τ.sz)with
   |false=>rw[hb]at h;cases h
   |true=>
    rw[hb]at h;simp only[r2i]at hb;have:=r2h hb.1;subst this;simp only[u2j,r2m]at h;obtain⟨y,h1,h2⟩:=h;split at h2
    ·rename_i x hx
     exact⟨_,.loadElt ho hp hk hd h1 hb.2 hx,h2⟩
    ·cases h2
  ·cases h
 ·cases h
theorem w0x{t ty:TypeId}{p x:Operand}{pos:String}{after:Array Edge}{guard:Option (Nat×Bool)}(ho:opK ops st.fr i=some ⟨none,.store t p x,ty,pos,after,guard⟩)
  (h:f1r P st t p x k=some r):∃e,IEff P N ops i st e/\k e=some r:=by
 unfold f1r at h;split at h
 ·rename_i kk e j off hp
  split at h
  ·rename_i te τ xs hk
   split at h
   ·rename_i vs hc
    split at h
    ·rename_i ds dJ
     split at h
     ·rename_i s hz
      cases hb:(Nat.beq e τ.sz&&Nat.beq ds.length s&&Nat.ble (off+ds.length) τ.sz)with
      |false=>rw[hb]at h;cases h
      |true=>
       rw[hb]at h;simp only[r2i]at hb;have:=r2h hb.1.1;subst this;simp only[u2j,r2m]at h;obtain⟨y,h1,h2⟩:=h;split at h2
       ·rename_i y' dS
        exact⟨_,.storeElt ho hp hk hc dJ hz hb.1.2 hb.2 h1 dS,h2⟩
       ·cases h2
     ·cases h
    ·cases h
   ·cases h
  ·cases h
 ·cases h
theorem y0q{t ty:TypeId}{x hi:Operand}{pos:String}{after:Array Edge}{guard:Option (Nat×Bool)}{kk:Nat}(ho:opK ops st.fr i=some ⟨some d,.slice t x none (some hi) none,ty,pos,after,guard⟩)(hd:Nat.blt d N=true)(hx:ev st.fr x=.cell (.own kk))
  (h:f1j P st d t kk hi k=some r):∃e,IEff P N ops i st e/\k e=some r:=by
 unfold f1j at h;split at h
 ·rename_i te e ht
  split at h
  ·rename_i a7 τ xs hk
   split at h
   ·rename_i q hq
    cases hb:(Nat.beq e τ.sz&&Nat.blt kk 2000000)with
    |false=>rw[hb]at h;cases h
    |true=>
     rw[hb]at h;simp only[r2i]at hb;have:=r2h hb.1;subst this;simp only[u2j,r2m]at h;obtain⟨y,h1,h2⟩:=h;unfold cut? at h1;split at h1
     ·rename_i h0
      cases h1;exact⟨_,.shrinkN ho hx hk ht hq hd h0.1 h0.2 hb.2,h2⟩
     ·cases h1
   ·cases h
  ·cases h
 ·cases h
theorem g1w{t ty:TypeId}{x lo:Operand}{pos:String}{after:Array Edge}{guard:Option (Nat×Bool)}{kk:Nat}(ho:opK ops st.fr i=some ⟨some d,.slice t x (some lo) none none,ty,pos,after,guard⟩)(hd:Nat.blt d N=true)(hx:ev st.fr x=.cell (.own kk))
  (h:e2w P st d t kk lo k=some r):∃e,IEff P N ops i st e/\k e=some r:=by
 unfold e2w at h;split at h
 ·rename_i te e ht
  split at h
  ·rename_i a7 τ xs hk
   split at h
   ·rename_i q hq
    cases hb:Nat.beq e τ.sz with
    |false=>rw[hb]at h;cases h
    |true=>
     rw[hb,u2j]at h;have:=r2h hb;subst this;obtain⟨h1,h2⟩:=e1z h;have h1:=of_decide_eq_true h1;exact⟨_,.restOwnN ho hx hk ht hq hd h1.1 h1.2,h2⟩
   ·cases h
  ·cases h
 ·cases h
theorem z0o{t ty:TypeId}{x:Operand}{pos:String}{after:Array Edge}{guard:Option (Nat×Bool)}(ho:opK ops st.fr i=some ⟨none,.call ⟨.builtin .clear,⟨[x]⟩,⟨[t]⟩⟩,ty,pos,after,guard⟩)
  (h:w1k P st t x k=some r):∃e,IEff P N ops i st e/\k e=some r:=by
 unfold w1k at h;split at h
 ·rename_i kk e lo m hx
  split at h
  ·rename_i a7 τ xs hk
   split at h
   ·rename_i te e2 ht
    split at h
    ·rename_i z hz
     split at h
     ·rename_i zv fC
      cases hb:(Nat.beq e τ.sz&&Nat.beq e2 τ.sz&&Nat.beq z.length τ.sz)with
      |false=>rw[hb]at h;cases h
      |true=>
       rw[hb,u2j]at h;simp only[r2i]at hb;have e1:=r2h hb.1.1;have oA:=r2h hb.1.2;subst e1;subst oA;obtain⟨h1,h2⟩:=e1z h;exact⟨_,.clearN ho hx hk ht hz (r2h hb.2) fC (r2u h1),h2⟩
     ·cases h
    ·cases h
   ·cases h
  ·cases h
 ·cases h
omit [Tabs]in
theorem u1s{x:AV}{cs:List D}(h:w1t x=some cs):x=.aggD cs:=by
 unfold w1t at h;split at h
 ·cases h;rfl
 ·cases h
theorem a1s{t ty:TypeId}{x ii:Operand}{pos:String}{after:Array Edge}{guard:Option (Nat×Bool)}{cs:List D}(ho:opK ops st.fr i=some ⟨some d,.index t x ii,ty,pos,after,guard⟩)(hd:Nat.blt d N=true)(hx:ev st.fr x=.aggD cs)
  (h:x1r P T st d t cs ii k=some r):∃e,IEff P N ops i st e/\k e=some r:=by
 unfold x1r at h;split at h
 ·rename_i n e hu
  split at h
  ·rename_i τ hτ
   split at h
   ·rename_i s hs
    split at h
    ·rename_i xs fR
     split at h
     ·rename_i q j hj
      cases hb:Nat.beq s τ.sz with
      |false=>rw[hb]at h;cases h
      |true=>
       rw[hb,u2j]at h;have:=r2h hb;subst this;simp only[r2m]at h;obtain⟨y,h1,h2⟩:=h;unfold ix at h1;split at h1
       ·rename_i h0
        split at h2
        ·rename_i z hz
         exact⟨_,.arrIndex ho hu hs hx fR hj hd h0 h1 hz,h2⟩
        ·cases h2
       ·cases h1
     ·cases h
    ·cases h
   ·cases h
  ·cases h
 ·cases h
omit [Tabs]in
theorem u1d{x:AV}{cs:List AC}(h:p1w x=some cs):x=.agg cs:=by
 unfold p1w at h;split at h
 ·cases h;rfl
 ·cases h
omit [Tabs]in
theorem k1v{e s:Nat}{cs:List AC}{j:Int}{k:Eff->Option ρ}:∀(m q:Nat),a2k P d e s cs j k m q=some r->∃p z,p<q+m/\j=(p:Int)/\k0j P e (cs.drop (p*s))=some z/\z.plain=true/\k (.put d z)=some r
 | 0,q,h=>by cases h
 |m+1,q,h=>by
  rw[a2k]at h;cases hj:j==(q:Int)with
  |true=>
   rw[hj,u2j]at h;split at h
   ·rename_i z hz
    cases hp:z.plain with
    |false=>rw[hp]at h;cases h
    |true=>rw[hp]at h;exact⟨q,z,by omega,by simpa using hj,hz,hp,h⟩
   ·cases h
  |false=>
   rw[hj,u2k]at h;obtain⟨p,z,h1,h2⟩:=k1v m (q+1) h;exact⟨p,z,by omega,h2⟩
theorem a1d{t ty:TypeId}{x ii:Operand}{pos:String}{after:Array Edge}{guard:Option (Nat×Bool)}{cs:List AC}(ho:opK ops st.fr i=some ⟨some d,.index t x ii,ty,pos,after,guard⟩)(hd:Nat.blt d N=true)(hx:ev st.fr x=.agg cs)
  (h:r1o P st d t cs ii k=some r):∃e,IEff P N ops i st e/\k e=some r:=by
 unfold r1o at h;split at h
 ·rename_i n e hu
  split at h
  ·rename_i s hs
   split at h
   ·rename_i kk j hj
    obtain⟨p,z,h1,h2,h3,h4,h5⟩:=k1v _ _ h;subst h2;exact⟨_,.aggIndex ho hu hs hx hj hd (by omega) h3 h4,h5⟩
   ·cases h
  ·cases h
 ·cases h
omit [Tabs]in
theorem c1i{x:AV}(h:t0u x=true):x=.cell (.d (.sc (.slice none 0 0))):=by
 unfold t0u at h;split at h
 ·rfl
 ·cases h
theorem f1q{t ty:TypeId}{x:Operand}{lo hi:Option Operand}{pos:String}{after:Array Edge}{guard:Option (Nat×Bool)}(ho:opK ops st.fr i=some ⟨some d,.slice t x lo hi none,ty,pos,after,guard⟩)(hd:Nat.blt d N=true)(hx:ev st.fr x=.cell (.d (.sc (.slice none 0 0))))
  (h:f2p P st d t lo hi k=some r):∃e,IEff P N ops i st e/\k e=some r:=by
 unfold f2p at h;split at h
 ·rename_i te ht
  split at h
  ·rename_i p hp
   split at h
   ·rename_i q hq
    obtain⟨h1,h2⟩:=e1z h;have h1:=of_decide_eq_true h1;rw[h1.1]at hp;rw[h1.2]at hq;exact⟨_,.sliceNil ho hx ht hp hq hd,h2⟩
   ·cases h
  ·cases h
 ·cases h
omit [Tabs]in
theorem q1y{t:TypeId}(h:t0w P t=true):∃k,P.underlying t=some (.int k):=by
 unfold t0w at h;split at h
 ·exact⟨_,by assumption⟩
 ·cases h
theorem e1l{t tn ty:TypeId}{s y:Operand}{pos:String}{after:Array Edge}{guard:Option (Nat×Bool)}(ho:opK ops st.fr i=some ⟨some d,.call ⟨.builtin .append,⟨[s,y]⟩,⟨[t,tn]⟩⟩,ty,pos,after,guard⟩)(hd:Nat.blt d N=true)(hn:t0w P tn=true)
  (h:j2r P T st d t tn s y k=some r):∃e,IEff P N ops i st e/\k e=some r:=by
 obtain⟨kn,mK⟩:=q1y hn;unfold j2r at h;split at h
 ·rename_i te e bytes ht
  split at h
  ·rename_i τ hτ
   split at h
   ·rename_i z hz
    split at h
    ·rename_i zv fC
     split at h
     ·rename_i q j hj
      cases hb:(t0u (ev st.fr s)&&Nat.beq e τ.sz&&Nat.beq z.length τ.sz)with
      |false=>rw[hb]at h;cases h
      |true=>
       rw[hb,u2j]at h;simp only[r2i]at hb;have e1:=r2h hb.1.2;subst e1;obtain⟨h1,h2⟩:=e1z h;simp only[r2i]at h1;exact⟨_,.appendZ ho (c1i hb.1.1) hj ht mK hz (r2h hb.2) fC hd (of_decide_eq_true h1.1) h1.2,h2⟩
     ·cases h
    ·cases h
   ·cases h
  ·cases h
 ·cases h
omit [Tabs]in
theorem r1p{x:AV}{p:Nat×Nat}(h:x1h x=some p):x=.cell (.ptr p.1 p.2):=by
 unfold x1h at h;split at h
 ·cases h;rfl
 ·cases h
theorem a1q{t ty:TypeId}{x ii:Operand}{pos:String}{after:Array Edge}{guard:Option (Nat×Bool)}{kk off:Nat}(ho:opK ops st.fr i=some ⟨some d,.indexAddr t x ii,ty,pos,after,guard⟩)(hd:Nat.blt d N=true)(hx:ev st.fr x=.cell (.ptr kk off))
  (h:s1e P st d t kk off ii k=some r):∃e,IEff P N ops i st e/\k e=some r:=by
 unfold s1e at h;split at h
 ·rename_i cs oty aH
  split at h
  ·rename_i n e hu
   split at h
   ·rename_i s hs
    split at h
    ·rename_i ki q hi
     cases hb:Nat.blt q n with
     |false=>rw[hb]at h;cases h
     |true=>
      rw[hb,u2j]at h;refine⟨_,.of_opK ho (.of_plain rfl hd rfl λF ρ a w hr=>?_),h⟩;have hv:=a0d hr x;rw[hx]at hv;have eX:=(a0i (a0d hr ii) (by rw[hi];rfl)).1;have j6:=hr.ob kk;rw[aH]at j6;cases j6 with
      |box cs oty b c t2 aQ hk aW im hh=>
       have bI:a.eval x=.pointer (some ⟨b,off,none⟩):=by
        generalize a.eval x=xv at hv;cases hv with
        |cell _ _ hv=>cases hv with
         |ptr _ _ _ hv=>exact hv b hk
       have hq:((q:Int))<(n:Int):=Int.ofNat_lt.2 (a0e hb);refine⟨.pointer (some ⟨b,off+q*s,none⟩),?_,.cell _ _ (.ptr _ _ _ λb' hb' =>?_)⟩
       ·have my:a.eval ii=.int ki (q:Int):=eX
        simp[execOp,bI,my,Instr.indexAt,Instr.sureAddr,asIntOf,run_underlying hu,hq,a0g hs,Addr.add_lit];intro hc;have:=a0e hb;omega
       ·rw[hk]at hb'
        cases hb';rfl
    ·cases h
   ·cases h
  ·cases h
 ·cases h
theorem r0g{o:Oper}(ho:opK ops st.fr i=some o)(h:y1g P N T st o k=some r):∃e,IEff P N ops i st e/\k e=some r:=by
 unfold y1g at h;obtain⟨dst,op,ty,pos,after,guard⟩:=o;dsimp only at h;split at h
 ·split at h
  ·exact w0x ho h
  ·exact z0o ho h
  ·rw[r2m]at h
   obtain⟨e,h1,h2⟩:=h;exact⟨e,.of_opK ho (j1z (.inl rfl) rfl h1),h2⟩
  ·rw[r2m]at h
   obtain⟨e,h1,h2⟩:=h;exact⟨e,.of_opK ho (j1z (.inr rfl) rfl h1),h2⟩
  ·obtain⟨e,h1,h2⟩:=b2d (N:=N) (P:=P) (o:=⟨none,_,ty,pos,after,guard⟩) rfl rfl h
   exact⟨e,.of_opK ho h1,h2⟩
  ·cases h
 ·rename_i d
  cases hd:Nat.blt d N with
  |false=>rw[hd]at h;cases h
  |true=>
   rw[hd,u2j]at h;split at h
   ·exact z0v ho hd h
   ·split at h
    ·rename_i kk hx
     exact x0j ho hd (w0c hx) h
    ·split at h
     ·rename_i p hx
      exact a1q ho hd (r1p hx) h
     ·exact b1i ho hd h
   ·cases hn:t0u (ev st.fr _)with
    |true=>rw[hn,u2j]at h;exact f1q ho hd (c1i hn) h
    |false=>
    rw[hn,u2k]at h;split at h
    ·rename_i kk hx
     exact y0q ho hd (w0c hx) h
    ·exact j0c ho hd h
   ·split at h
    ·rename_i kk hx
     exact g1w ho hd (w0c hx) h
    ·exact j0c ho hd h
   ·split at h
    ·rename_i cs hx
     exact a1s ho hd (u1s hx) h
    ·split at h
     ·rename_i cs hx
      exact a1d ho hd (u1d hx) h
     ·exact m1g ho hd h
   ·exact j0c ho hd h
   ·exact v0w ho hd h
   ·exact h1y ho hd h
   ·exact h1q ho hd h
   ·exact m1c ho hd h
   ·cases hn:t0w P _ with
    |true=>rw[hn,u2j]at h;exact e1l ho hd hn h
    |false=>
    rw[hn,u2k]at h;split at h
    ·rename_i p hp
     obtain⟨h1,h2⟩:=e1z h;exact⟨_,s0i ho hp h1,h2⟩
    ·exact o0k ho h
   ·split at h
    ·rename_i e he
     exact⟨e,.of_opK ho (w1j rfl rfl he),h⟩
    ·exact o0k ho h
   ·split at h
    ·rename_i p hp
     obtain⟨h1,h2⟩:=e1z h;exact⟨_,s0i ho hp h1,h2⟩
    ·exact o0k ho h
   ·rw[r2m]at h
    obtain⟨e,h1,h2⟩:=h;exact⟨e,.of_opK ho (y1y rfl h1),h2⟩
   ·rw[r2m]at h
    obtain⟨e,h1,h2⟩:=h;exact⟨e,.of_opK ho (o1b rfl h1 rfl),h2⟩
   ·rw[r2m]at h
    obtain⟨e,h1,h2⟩:=h;exact⟨e,.of_opK ho (p1t rfl h1),h2⟩
   ·cases h
theorem g0t{o:Oper}(ho:opK ops st.fr i=some o)(h:kOp P N T st o k=some r):∃e,IEff P N ops i st e/\k e=some r:=by
 unfold kOp at h;cases hb:(c2a st o || k2x P o)with
 |true=>rw[hb]at h;exact r0g ho h
 |false=>
  rw[hb,u2k]at h;split at h
  ·rename_i e he
   split at h
   ·rename_i e' gf
    exact⟨e',p1q gf (.of_opK ho (z0y he)),h⟩
   ·cases h
  ·exact r0g ho h
end
end Esp

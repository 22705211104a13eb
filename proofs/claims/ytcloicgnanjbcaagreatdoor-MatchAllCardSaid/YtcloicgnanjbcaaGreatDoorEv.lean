import Derived.Test.YtcloicgnanjbcaaGreatDoorEvAv
import Derived.Test.YtcloicgnanjbcaaGreatDoorEvRune
namespace Esp
open Go
set_option linter.unusedSimpArgs false
set_option linter.unusedVariables false
variable [Tabs]
def ix{α:Type}(xs:List α)(j:Int):Option α:=if 0≤j then xs[j.toNat]? else none
def sat(s:ByteArray)(j:Int):Option Int:=if 0≤j then(s.data.toList[j.toNat]?).map fun b=>(b.toNat:Int)else none
def ssl(s:ByteArray)(p q:Int):Option ByteArray:=if 0≤p∧p≤q∧q≤(s.size:Int)then some (s.extract p.toNat q.toNat)else none
def lsl{α:Type}(xs:List α)(p q:Int):Option (List α):=if 0≤p∧p≤q∧q≤(xs.length:Int)then some ((xs.drop p.toNat).take (q - p).toNat)else none
def cat? (a b:ByteArray):Option ByteArray:=if a.size+b.size≤9223372036854775807 then some (a++b)else none
def nz? (y:Int):Option Int:=if y=0 then none else some y
def d1d(y:Int):Option Int:=if 0≤y then some y else none
def str? (l:List Int):Option ByteArray:=if p0h l=true then some (strI l)else none
def ck{ρ:Type}(b:Bool)(k:Option ρ):Option ρ:=bif b then k else none
omit [Tabs]in
theorem d1l{ρ:Type}{b:Bool}{k:Option ρ}{r:ρ}(h:ck b k=some r):b=true∧k=some r:=by
 cases b with
 | true=>exact⟨rfl,h⟩
 | false=>cases h
section
variable{ρ:Type}
def l1w(P:Program)(fr:List (Nat×AV))(d:Nat)(t:TypeId)(x i:Operand)(k:Eff→Option ρ):Option ρ:=
 match d0m P t with
 | some (_,e)=>match ev fr x with
  | .cell (.d (.nl τ xs))=>match ev fr i with
   | .cell (.d (.sc (.int _ j)))=>bif Nat.beq e τ.sz then(ix xs j).bind fun y=>k (.put d (.cell (.d (.rp (cells τ y)))))else none
   | _=>none
  | _=>none
 | none=>none
def kSat(P:Program)(fr:List (Nat×AV))(d:Nat)(t:TypeId)(x i:Operand)(k:Eff→Option ρ):Option ρ:=
 match P.underlying t with
 | some .string=>match ev fr x with
  | .cell (.d (.sc (.string s)))=>match ev fr i with
   | .cell (.d (.sc (.int _ j)))=>(sat s j).bind fun b=>k (.put d (.cell (.d (.sc (.int .u8 b)))))
   | _=>none
  | _=>none
 | _=>none
def x0x(P:Program)(fr:List (Nat×AV))(d:Nat)(t:TypeId)(x:Operand)(lo hi:Option Operand)(k:Eff→Option ρ):Option ρ:=
 match ev fr x with
 | .cell (.d (.sc (.string s)))=>match P.underlying t with
  | some .string=>match bndV fr lo 0 with
   | some p=>match bndV fr hi s.size with
    | some q=>(ssl s p q).bind fun r=>k (.put d (.cell (.d (.sc (.string r)))))
    | none=>none
   | none=>none
  | _=>none
 | .cell (.d (.nl τ xs))=>match d0m P t with
  | some (_,e)=>match bndV fr lo 0 with
   | some p=>match bndV fr hi xs.length with
    | some q=>bif Nat.beq e τ.sz then(lsl xs p q).bind fun r=>k (.put d (.cell (.d (.nl τ r))))else none
    | none=>none
   | none=>none
  | none=>none
 | _=>none
def m0j(P:Program)(t:TypeId):Bool:=
 match P.underlying t with
 | some .string=>true
 | _=>false
def y1f(P:Program)(fr:List (Nat×AV))(d:Nat)(src dst:TypeId)(x:Operand)(k:Eff→Option ρ):Option ρ:=
 match ev fr x with
 | .cell (.d (.sc (.string s)))=>bif m0j P src&&d0c P dst then k (.put d (.cell (.d (.nl .u8 (d0w s)))))else bif m0j P src&&j0m P dst then k (.put d (.cell (.d (.nl .i32 (b0b s)))))else none
 | .cell (.d (.nl .u8 l))=>bif m0j P dst&&d0c P src then(str? l).bind fun r=>k (.put d (.cell (.d (.sc (.string r)))))else none
 | _=>none
def e1s(i j:IntKind):Bool:=decide (i=j)
def kBin(fr:List (Nat×AV))(d:Nat)(op:BinOp)(x y:Operand)(k:Eff→Option ρ):Option ρ:=
 match scV (ev fr x)with
 | some (.int i a)=>match scV (ev fr y)with
  | some (.int i2 b)=>match op with
   | .quo=>bif e1s i i2 then(nz? b).bind fun b=>k (.put d (.cell (.d (.sc (.int i (bquo i a b))))))else none
   | .rem=>bif e1s i i2 then(nz? b).bind fun b=>k (.put d (.cell (.d (.sc (.int i (brem i a b))))))else none
   | .shl=>(d1d b).bind fun b=>k (.put d (.cell (.d (.sc (.int i (bshl i a b))))))
   | .shr=>(d1d b).bind fun b=>k (.put d (.cell (.d (.sc (.int i (bshr i a b))))))
   | _=>none
  | _=>none
 | some (.string a)=>match scV (ev fr y)with
  | some (.string b)=>match op with
   | .add=>(cat? a b).bind fun r=>k (.put d (.cell (.d (.sc (.string r)))))
   | _=>none
  | _=>none
 | _=>none
def lsl3{α:Type}(xs:List α)(p q m:Int):Option (List α):=if 0≤p∧p≤q∧q≤m∧m≤(xs.length:Int)then some ((xs.drop p.toNat).take (q - p).toNat)else none
def cnt? (j:Int):Option Nat:=if 0≤j then some j.toNat else none
def a2h:Operand→Operand→Bool
 | .tmp a, .tmp b=>Nat.beq a b
 | .const (.int _ a), .const (.int _ b)=>decide (a=b)
 | _,_=>false
def b1f(P:Program)(fr:List (Nat×AV))(d:Nat)(t:TypeId)(x:Operand)(lo:Option Operand)(hi mx:Operand)(k:Eff→Option ρ):Option ρ:=
 match ev fr x with
 | .cell (.d (.nl τ xs))=>match d0m P t with
  | some (_,e)=>match bndV fr lo 0 with
   | some p=>match bndV fr (some hi) 0 with
    | some q=>match bndV fr (some mx) 0 with
     | some m=>bif Nat.beq e τ.sz then(lsl3 xs p q m).bind fun r=>k (.put d (.cell (.d (.nl τ r))))else none
     | none=>none
    | none=>none
   | none=>none
  | none=>none
 | _=>none
def a2s(P:Program)(T:List (TypeId×Ev.Ty))(fr:List (Nat×AV))(d:Nat)(t:TypeId)(n m:Operand)(k:Eff→Option ρ):Option ρ:=
 match rowB P t with
 | some (te,e,bytes)=>match tyOf T te with
  | some τ=>match i0e P te with
   | some z=>match rd τ (z.map .sc)with
    | some zv=>match ev fr n with
     | .cell (.d (.sc (.int _ j)))=>match ev fr m with
      | .cell (.d (.sc (.int _ _)))=>bif Nat.beq e τ.sz&&Nat.beq z.length τ.sz&&a2h n m then(cnt? j).bind fun c=>ck (room c bytes) (k (.new d (.na te τ (List.replicate c zv)) d (.cell (.own d))))else none
      | _=>none
     | _=>none
    | none=>none
   | none=>none
  | none=>none
 | none=>none
def kLow(P:Program)(N:Nat)(st:ASt)(o:Oper)(k:Eff→Option ρ):Option ρ:=
 match w0d P N o st.low with
 | some (.put d (.cell (.d (.sc v))))=>k (.put d (.cell (.d (.sc v))))
 | _=>none
def cut? {α:Type}(xs:List α)(q:Int):Option (List α):=if 0≤q∧q≤(xs.length:Int)then some (xs.take q.toNat)else none
def a1e(P:Program)(st:ASt)(d:Nat)(t:TypeId)(kk:Nat)(i:Operand)(k:Eff→Option ρ):Option ρ:=
 match d0m P t with
 | some (_,e)=>match lkO st.ob kk with
  | .na _ τ xs=>match ev st.fr i with
   | .cell (.d (.sc (.int _ j)))=>bif Nat.beq e τ.sz then(ix xs j).bind fun _=>k (.put d (.cell (.elt kk τ.sz j.toNat 0)))else none
   | _=>none
  | _=>none
 | none=>none
def n1l(P:Program)(st:ASt)(d:Nat)(t:TypeId)(p:Operand)(k:Eff→Option ρ):Option ρ:=
 match ev st.fr p with
 | .cell (.elt kk e j off)=>match lkO st.ob kk with
  | .na _ τ xs=>bif Nat.beq e τ.sz&&Nat.ble off τ.sz then(xs[j]?).bind fun y=>match e0c P t ((cells τ y).drop off)with
   | some x=>k (.put d x)
   | none=>none
   else none
  | _=>none
 | _=>none
def a1k(P:Program)(st:ASt)(t:TypeId)(p x:Operand)(k:Eff→Option ρ):Option ρ:=
 match ev st.fr p with
 | .cell (.elt kk e j off)=>match lkO st.ob kk with
  | .na te τ xs=>match cellsOf st.ob (ev st.fr x)with
   | some vs=>match allD vs with
    | some ds=>match c0i P t with
     | some s=>bif Nat.beq e τ.sz&&Nat.beq ds.length s&&Nat.ble (off+ds.length) τ.sz then(xs[j]?).bind fun y=>match rd τ (b0a (cells τ y) off ds)with
      | some y' =>k (.upd kk (.na te τ (xs.set j y')))
      | none=>none
      else none
     | none=>none
    | none=>none
   | none=>none
  | _=>none
 | _=>none
def b1q(P:Program)(st:ASt)(d:Nat)(t:TypeId)(kk:Nat)(hi:Operand)(k:Eff→Option ρ):Option ρ:=
 match d0m P t with
 | some (_,e)=>match lkO st.ob kk with
  | .na te τ xs=>match bndV st.fr (some hi) xs.length with
   | some q=>bif Nat.beq e τ.sz&&Nat.blt kk 2000000 then(cut? xs q).bind fun r=>k (.new kk (.na te τ r) d (.cell (.own kk)))else none
   | none=>none
  | _=>none
 | none=>none
def y1x(P:Program)(st:ASt)(d:Nat)(t:TypeId)(kk:Nat)(lo:Operand)(k:Eff→Option ρ):Option ρ:=
 match d0m P t with
 | some (_,e)=>match lkO st.ob kk with
  | .na _ τ xs=>match bndV st.fr (some lo) 0 with
   | some q=>bif Nat.beq e τ.sz then ck (decide (0≤q∧q≤(xs.length:Int))) (k (.put d (.cell (.osl kk τ.sz q.toNat (xs.length - q.toNat)))))else none
   | none=>none
  | _=>none
 | none=>none
def l1l(P:Program)(st:ASt)(t:TypeId)(x:Operand)(k:Eff→Option ρ):Option ρ:=
 match ev st.fr x with
 | .cell (.osl kk e lo m)=>match lkO st.ob kk with
  | .na te' τ xs=>match d0m P t with
   | some (te,e2)=>match i0e P te with
    | some z=>match rd τ (z.map .sc)with
     | some zv=>bif Nat.beq e τ.sz&&Nat.beq e2 τ.sz&&Nat.beq z.length τ.sz then ck (Nat.ble (lo+m) xs.length) (k (.upd kk (.na te' τ (clrL xs lo m zv))))else none
     | none=>none
    | none=>none
   | none=>none
  | _=>none
 | _=>none
def m1m(P:Program)(T:List (TypeId×Ev.Ty))(st:ASt)(d:Nat)(t:TypeId)(cs:List D)(i:Operand)(k:Eff→Option ρ):Option ρ:=
 match P.underlying t with
 | some (.array n e)=>match tyOf T e with
  | some τ=>match c0i P e with
   | some s=>match rds τ n cs with
    | some xs=>match ev st.fr i with
     | .cell (.d (.sc (.int _ j)))=>bif Nat.beq s τ.sz then(ix xs j).bind fun y=>match e0c P e (cells τ y)with
      | some z=>k (.put d z)
      | none=>none
      else none
     | _=>none
    | none=>none
   | none=>none
  | none=>none
 | _=>none
def k1f:AV→Option (List D)
 | .aggD cs=>some cs
 | _=>none
def n1h:AV→Option (List AC)
 | .agg cs=>some cs
 | _=>none
def s1k(P:Program)(d:Nat)(e s:Nat)(cs:List AC)(j:Int)(k:Eff→Option ρ):(m q:Nat)→Option ρ
 | 0,_=>none
 | m+1,q=>bif j==(q:Int)then(match i0h P e (cs.drop (q*s))with
  | some z=>bif z.plain then k (.put d z)else none
  | none=>none)else s1k P d e s cs j k m (q+1)
def p1e(P:Program)(st:ASt)(d:Nat)(t:TypeId)(cs:List AC)(i:Operand)(k:Eff→Option ρ):Option ρ:=
 match P.underlying t with
 | some (.array n e)=>match c0i P e with
  | some s=>match ev st.fr i with
   | .cell (.d (.sc (.int _ j)))=>s1k P d e s cs j k n 0
   | _=>none
  | none=>none
 | _=>none
def a2k(P:Program)(st:ASt)(d:Nat)(t:TypeId)(lo hi:Option Operand)(k:Eff→Option ρ):Option ρ:=
 match d0m P t with
 | some _=>match bndV st.fr lo 0 with
  | some p=>match bndV st.fr hi 0 with
   | some q=>ck (decide (p=0∧q=0)) (k (.put d (.cell (.d (.sc (.slice none 0 0))))))
   | none=>none
  | none=>none
 | none=>none
def q0p:AV→Bool
 | .cell (.d (.sc (.slice none 0 0)))=>true
 | _=>false
def x1c(P:Program)(T:List (TypeId×Ev.Ty))(st:ASt)(d:Nat)(t tn:TypeId)(s y:Operand)(k:Eff→Option ρ):Option ρ:=
 match rowB P t with
 | some (te,e,bytes)=>match tyOf T te with
  | some τ=>match i0e P te with
   | some z=>match rd τ (z.map .sc)with
    | some zv=>match ev st.fr y with
     | .cell (.d (.sc (.int _ j)))=>bif q0p (ev st.fr s)&&Nat.beq e τ.sz&&Nat.beq z.length τ.sz then ck (decide (0<j)&&room j.toNat bytes) (k (.new d (.na te τ (List.replicate j.toNat zv)) d (.cell (.own d))))else none
     | _=>none
    | none=>none
   | none=>none
  | none=>none
 | none=>none
def r0j(P:Program)(t:TypeId):Bool:=
 match P.underlying t with
 | some (.int _)=>true
 | _=>false
def j1h:AV→Option Nat
 | .cell (.own k)=>some k
 | _=>none
def o1n(P:Program)(st:ASt)(d:Nat)(t:TypeId)(kk off:Nat)(i:Operand)(k:Eff→Option ρ):Option ρ:=
 match lkO st.ob kk with
 | .box _ _=>match P.underlying t with
  | some (.array n e)=>match c0i P e with
   | some s=>match ev st.fr i with
    | .cell (.d (.sc (.int _ (.ofNat q))))=>bif Nat.blt q n then k (.put d (.cell (.ptr kk (off+q*s))))else none
    | _=>none
   | none=>none
  | _=>none
 | _=>none
def q1c:AV→Option (Nat×Nat)
 | .cell (.ptr k off)=>some (k,off)
 | _=>none
def t1f(P:Program)(N:Nat)(T:List (TypeId×Ev.Ty))(st:ASt)(o:Oper)(k:Eff→Option ρ):Option ρ:=
 match o.dst with
 | none=>match o.op with
  | .store t p x=>a1k P st t p x k
  | .call ⟨.builtin .clear,⟨[x]⟩,⟨[t]⟩⟩=>l1l P st t x k
  | .mapUpdate t m x v=>(sPut P st t m x v).bind k
  | .insert t m x v=>(sPut P st t m x v).bind k
  | .entryStore _ m s v=>kEnt st m s v k
  | _=>none
 | some d=>bif Nat.blt d N then match o.op with
  | .load t p=>n1l P st d t p k
  | .indexAddr t x i=>match j1h (ev st.fr x)with
   | some kk=>a1e P st d t kk i k
   | none=>match q1c (ev st.fr x)with
    | some p=>o1n P st d t p.1 p.2 i k
    | none=>l1w P st.fr d t x i k
  | .slice t x none (some hi) none=>bif q0p (ev st.fr x)then a2k P st d t none (some hi) k else match j1h (ev st.fr x)with
   | some kk=>b1q P st d t kk hi k
   | none=>x0x P st.fr d t x none (some hi) k
  | .slice t x (some lo) none none=>match j1h (ev st.fr x)with
   | some kk=>y1x P st d t kk lo k
   | none=>x0x P st.fr d t x (some lo) none k
  | .index t x i=>match k1f (ev st.fr x)with
   | some cs=>m1m P T st d t cs i k
   | none=>match n1h (ev st.fr x)with
    | some cs=>p1e P st d t cs i k
    | none=>kSat P st.fr d t x i k
  | .slice t x lo hi none=>x0x P st.fr d t x lo hi k
  | .slice t x lo (some hi) (some mx)=>b1f P st.fr d t x lo hi mx k
  | .makeSlice t n m=>a2s P T st.fr d t n m k
  | .convert s t x=>y1f P st.fr d s t x k
  | .binOp op _ x y _=>kBin st.fr d op x y k
  | .call ⟨.builtin .append,⟨[s,y]⟩,⟨[t,tn]⟩⟩=>bif r0j P tn then x1c P T st d t tn s y k else match t1l P N T st o with
   | some p=>ck (room p.zs.length p.bytes) (k p.eff)
   | none=>kLow P N st o k
  | .call ⟨.builtin .len,⟨[x]⟩,⟨[t]⟩⟩=>match y1u P N st (some d) t x with
   | some e=>k e
   | none=>kLow P N st o k
  | .call _=>match t1l P N T st o with
   | some p=>ck (room p.zs.length p.bytes) (k p.eff)
   | none=>kLow P N st o k
  | .mapEntry t m x=>(sEnt P N st (some d) t m x).bind k
  | .makeMap t none=>(j1m P N T (some d) t).bind k
  | .lookup t m x b=>(x1m P N st (some d) t m x b).bind k
  | _=>none
  else none
def v1s(st:ASt)(o:Oper):Bool:=
 match o.op with
 | .binOp op _ x y _=>match op with
  | .shl | .shr=>match y with
   | .const _=>false
   | _=>true
  | .quo | .rem=>match y with
   | .const _=>false
   | _=>true
  | .add=>match ev st.fr x with
   | .cell (.d (.sc (.string _)))=>true
   | _=>false
  | _=>false
 | _=>false
def h2k(P:Program)(o:Oper):Bool:=
 match o.op with
 | .call ⟨.builtin .append,_,⟨[_,tn]⟩⟩=>r0j P tn
 | _=>false
def t1h(P:Program)(N:Nat)(ops:Array Oper)(o:Oper)(j:Nat)(want:Bool)(st:ASt):Option Eff:=
 match q0k ops j with
 | some g=>bif v1s ⟨unwF (m0i st.fr 8 g want) st.fr,st.ob⟩ o then none else o1r P N ops o j want st
 | none=>none
omit [Tabs]in
theorem f1s{P:Program}{N:Nat}{ops:Array Oper}{o:Oper}{j:Nat}{want:Bool}{st:ASt}{e:Eff}(h:t1h P N ops o j want st=some e):o1r P N ops o j want st=some e:=by
 unfold t1h at h;split at h
 ·rename_i g _
  cases hb:v1s ⟨unwF (m0i st.fr 8 g want) st.fr,st.ob⟩ o with
  | true=>rw [hb]at h;cases h
  | false=>rw [hb]at h;exact h
 ·cases h
def kOp(P:Program)(N:Nat)(T:List (TypeId×Ev.Ty))(st:ASt)(o:Oper)(k:Eff→Option ρ):Option ρ:=
 bif v1s st o || h2k P o then t1f P N T st o k else
 match w0d P N o st with
 | some e=>match upN T e with
  | some e' =>k e'
  | none=>none
 | none=>t1f P N T st o k
variable{P:Program}{N:Nat}{T:List (TypeId×Ev.Ty)}{ops:Array Oper}{st:ASt}{i d:Nat}{k:Eff→Option ρ}{r:ρ}
theorem y0w{t ty:TypeId}{x ii:Operand}{pos:String}{after:Array Edge}{guard:Option (Nat×Bool)}(ho:opK ops st.fr i=some ⟨some d, .indexAddr t x ii,ty,pos,after,guard⟩)(hd:Nat.blt d N=true)
  (h:l1w P st.fr d t x ii k=some r): ∃e,IEff P N ops i st e∧k e=some r:=by
 unfold l1w at h;split at h
 ·rename_i te e ht
  split at h
  ·rename_i τ xs hx
   split at h
   ·rename_i kk j hj
    cases hb:Nat.beq e τ.sz with
    | false=>rw [hb]at h;cases h
    | true=>
     rw [hb]at h;have:=j2t hb;subst this;simp only [cond_true,j2w]at h;obtain⟨y,h1,h2⟩:=h;unfold ix at h1;split at h1
     ·rename_i h0
      exact⟨_, .indexN ho hx hj ht hd h0 h1,h2⟩
     ·cases h1
   ·cases h
  ·cases h
 ·cases h
theorem g1r{t ty:TypeId}{x ii:Operand}{pos:String}{after:Array Edge}{guard:Option (Nat×Bool)}(ho:opK ops st.fr i=some ⟨some d, .index t x ii,ty,pos,after,guard⟩)(hd:Nat.blt d N=true)
  (h:kSat P st.fr d t x ii k=some r): ∃e,IEff P N ops i st e∧k e=some r:=by
 unfold kSat at h;split at h
 ·rename_i ht
  split at h
  ·rename_i s hx
   split at h
   ·rename_i kk j hj
    simp only [j2w]at h;obtain⟨y,h1,h2⟩:=h;unfold sat at h1;split at h1
    ·rename_i h0
     simp only [l2k]at h1;obtain⟨b,h3,rfl⟩:=h1;exact⟨_, .strIndex ho hx hj ht hd h0 h3,h2⟩
    ·cases h1
   ·cases h
  ·cases h
 ·cases h
theorem g0s{t ty:TypeId}{x:Operand}{lo hi:Option Operand}{pos:String}{after:Array Edge}{guard:Option (Nat×Bool)}(ho:opK ops st.fr i=some ⟨some d, .slice t x lo hi none,ty,pos,after,guard⟩)(hd:Nat.blt d N=true)
  (h:x0x P st.fr d t x lo hi k=some r): ∃e,IEff P N ops i st e∧k e=some r:=by
 unfold x0x at h;split at h
 ·rename_i s hx
  split at h
  ·rename_i ht
   split at h
   ·rename_i p hp
    split at h
    ·rename_i q hq
     simp only [j2w]at h;obtain⟨y,h1,h2⟩:=h;unfold ssl at h1;split at h1
     ·rename_i h0
      cases h1;exact⟨_, .strSlice ho hx ht hp hq hd h0.1 h0.2.1 h0.2.2 rfl,h2⟩
     ·cases h1
    ·cases h
   ·cases h
  ·cases h
 ·rename_i τ xs hx
  split at h
  ·rename_i te e ht
   split at h
   ·rename_i p hp
    split at h
    ·rename_i q hq
     cases hb:Nat.beq e τ.sz with
     | false=>rw [hb]at h;cases h
     | true=>
      rw [hb]at h;have:=j2t hb;subst this;simp only [cond_true,j2w]at h;obtain⟨y,h1,h2⟩:=h;unfold lsl at h1;split at h1
      ·rename_i h0
       cases h1;exact⟨_, .sliceN ho hx ht hp hq hd h0.1 h0.2.1 h0.2.2,h2⟩
      ·cases h1
    ·cases h
   ·cases h
  ·cases h
 ·cases h
omit [Tabs]in
theorem o0y{t:TypeId}(h:m0j P t=true):P.underlying t=some .string:=by
 unfold m0j at h;split at h
 ·assumption
 ·cases h
theorem a1y{src dst ty:TypeId}{x:Operand}{pos:String}{after:Array Edge}{guard:Option (Nat×Bool)}(ho:opK ops st.fr i=some ⟨some d, .convert src dst x,ty,pos,after,guard⟩)(hd:Nat.blt d N=true)
  (h:y1f P st.fr d src dst x k=some r): ∃e,IEff P N ops i st e∧k e=some r:=by
 unfold y1f at h;split at h
 ·rename_i s hx
  cases hb:(m0j P src&&d0c P dst)with
  | false=>
   rw [hb,cond_false]at h;cases hb2:(m0j P src&&j0m P dst)with
   | false=>rw [hb2]at h;cases h
   | true=>
    rw [hb2]at h;simp only [j2s]at hb2;exact⟨_, .runesOf ho hx (o0y hb2.1) hb2.2 hd,h⟩
  | true=>
   rw [hb]at h;simp only [j2s]at hb;exact⟨_, .bytesOfN ho hx (o0y hb.1) hb.2 hd,h⟩
 ·rename_i l hx
  cases hb:(m0j P dst&&d0c P src)with
  | false=>rw [hb]at h;cases h
  | true=>
   rw [hb]at h;simp only [j2s]at hb;simp only [cond_true,j2w]at h;obtain⟨y,h1,h2⟩:=h;unfold str? at h1;split at h1
   ·rename_i h0
    cases h1;exact⟨_, .ofBytesN ho hx (o0y hb.1) hb.2 hd h0,h2⟩
   ·cases h1
 ·cases h
theorem g1v{op:BinOp}{t u ty:TypeId}{x y:Operand}{pos:String}{after:Array Edge}{guard:Option (Nat×Bool)}(ho:opK ops st.fr i=some ⟨some d, .binOp op t x y u,ty,pos,after,guard⟩)(hd:Nat.blt d N=true)
  (h:kBin st.fr d op x y k=some r): ∃e,IEff P N ops i st e∧k e=some r:=by
 unfold kBin at h;split at h
 ·rename_i ik a hx
  split at h
  ·rename_i ik2 b hy
   have hq:qBin N ops i st=some (d,op, .int ik a, .int ik2 b):=by simp [qBin,ho,hx,hy,hd]
   split at h
   ·cases hk:e1s ik ik2 with
    | false=>rw [hk]at h;cases h
    | true=>
     rw [hk,cond_true]at h;have:=of_decide_eq_true hk;subst this;simp only [j2w]at h;obtain⟨y,h1,h2⟩:=h;unfold nz? at h1;split at h1
     ·cases h1
     ·cases h1
      exact⟨_, .qquo hq (by assumption),h2⟩
   ·cases hk:e1s ik ik2 with
    | false=>rw [hk]at h;cases h
    | true=>
     rw [hk,cond_true]at h;have:=of_decide_eq_true hk;subst this;simp only [j2w]at h;obtain⟨y,h1,h2⟩:=h;unfold nz? at h1;split at h1
     ·cases h1
     ·cases h1
      exact⟨_, .qrem hq (by assumption),h2⟩
   ·simp only [j2w]at h
    obtain⟨y,h1,h2⟩:=h;unfold d1d at h1;split at h1
    ·cases h1
     exact⟨_, .qshl hq (by assumption),h2⟩
    ·cases h1
   ·simp only [j2w]at h
    obtain⟨y,h1,h2⟩:=h;unfold d1d at h1;split at h1
    ·cases h1
     exact⟨_, .qshr hq (by assumption),h2⟩
    ·cases h1
   ·cases h
  ·cases h
 ·rename_i a hx
  split at h
  ·rename_i b hy
   have hq:qBin N ops i st=some (d,op, .string a, .string b):=by simp [qBin,ho,hx,hy,hd]
   split at h
   ·simp only [j2w]at h
    obtain⟨y,h1,h2⟩:=h;unfold cat? at h1;split at h1
    ·cases h1
     exact⟨_, .qcat hq (by assumption) rfl,h2⟩
    ·cases h1
   ·cases h
  ·cases h
 ·cases h
theorem u0b{t ty:TypeId}{x:Operand}{lo:Option Operand}{hi mx:Operand}{pos:String}{after:Array Edge}{guard:Option (Nat×Bool)}(ho:opK ops st.fr i=some ⟨some d, .slice t x lo (some hi) (some mx),ty,pos,after,guard⟩)(hd:Nat.blt d N=true)
  (h:b1f P st.fr d t x lo hi mx k=some r): ∃e,IEff P N ops i st e∧k e=some r:=by
 unfold b1f at h;split at h
 ·rename_i τ xs hx
  split at h
  ·rename_i te e ht
   split at h
   ·rename_i p hp
    split at h
    ·rename_i q hq
     split at h
     ·rename_i m hm
      cases hb:Nat.beq e τ.sz with
      | false=>rw [hb]at h;cases h
      | true=>
       rw [hb]at h;have:=j2t hb;subst this;simp only [cond_true,j2w]at h;obtain⟨y,h1,h2⟩:=h;unfold lsl3 at h1;split at h1
       ·rename_i h0
        cases h1;exact⟨_, .slice3N ho hx ht hp hq hm hd h0.1 h0.2.1 h0.2.2.1 h0.2.2.2,h2⟩
       ·cases h1
     ·cases h
    ·cases h
   ·cases h
  ·cases h
 ·cases h
theorem b1x{t ty:TypeId}{n m:Operand}{pos:String}{after:Array Edge}{guard:Option (Nat×Bool)}(ho:opK ops st.fr i=some ⟨some d, .makeSlice t n m,ty,pos,after,guard⟩)(hd:Nat.blt d N=true)
  (h:a2s P T st.fr d t n m k=some r): ∃e,IEff P N ops i st e∧k e=some r:=by
 unfold a2s at h;split at h
 ·rename_i te e bytes ht
  split at h
  ·rename_i τ hτ
   split at h
   ·rename_i z hz
    split at h
    ·rename_i zv hzv
     split at h
     ·rename_i k1 j hn
      split at h
      ·rename_i k2 j2 hm
       cases hb:(Nat.beq e τ.sz&&Nat.beq z.length τ.sz&&a2h n m)with
       | false=>rw [hb]at h;cases h
       | true=>
        rw [hb]at h;simp only [j2s]at hb;have:=j2t hb.1.1;subst this;simp only [cond_true,j2w]at h;obtain⟨c,h1,h2⟩:=h;unfold cnt? at h1;split at h1
        ·rename_i h0
         cases h1;obtain⟨h3,h4⟩:=d1l h2;have hj:j2=j:=by
          have ho2:=hb.2;unfold a2h at ho2;split at ho2
          ·rw [j2t ho2,hm]at hn
           cases hn;rfl
          ·simp only [decide_eq_true_eq]at ho2
           subst ho2;simp only [ev]at hn hm;cases hn;cases hm;rfl
          ·cases ho2
         subst hj;exact⟨_, .makeN ho hn hm ht hz (j2t hb.1.2) hzv hd h0 h3,h4⟩
        ·cases h1
      ·cases h
     ·cases h
    ·cases h
   ·cases h
  ·cases h
 ·cases h
theorem l0m{o:Oper}(ho:opK ops st.fr i=some o)(h:kLow P N st o k=some r): ∃e,IEff P N ops i st e∧k e=some r:=by
 unfold kLow at h;split at h
 ·rename_i d v hs
  exact⟨_, .ofLow (.of_opK (by rw [c0r];exact ho) (p0z hs)),h⟩
 ·cases h
omit [Tabs]in
theorem s0x{x:AV}{kk:Nat}(h:j1h x=some kk):x= .cell (.own kk):=by
 unfold j1h at h;split at h
 ·cases h;rfl
 ·cases h
theorem s0g{t ty:TypeId}{x ii:Operand}{pos:String}{after:Array Edge}{guard:Option (Nat×Bool)}{kk:Nat}(ho:opK ops st.fr i=some ⟨some d, .indexAddr t x ii,ty,pos,after,guard⟩)(hd:Nat.blt d N=true)(hx:ev st.fr x= .cell (.own kk))
  (h:a1e P st d t kk ii k=some r): ∃e,IEff P N ops i st e∧k e=some r:=by
 unfold a1e at h;split at h
 ·rename_i te e ht
  split at h
  ·rename_i te' τ xs hk
   split at h
   ·rename_i q j hj
    cases hb:Nat.beq e τ.sz with
    | false=>rw [hb]at h;cases h
    | true=>
     rw [hb]at h;have:=j2t hb;subst this;simp only [cond_true,j2w]at h;obtain⟨y,h1,h2⟩:=h;unfold ix at h1;split at h1
     ·rename_i h0
      have:=(k2a.1 h1).1;exact⟨_, .indexOwnN ho hx hk hj ht hd h0 (by omega),h2⟩
     ·cases h1
   ·cases h
  ·cases h
 ·cases h
theorem v0w{t ty:TypeId}{p:Operand}{pos:String}{after:Array Edge}{guard:Option (Nat×Bool)}(ho:opK ops st.fr i=some ⟨some d, .load t p,ty,pos,after,guard⟩)(hd:Nat.blt d N=true)
  (h:n1l P st d t p k=some r): ∃e,IEff P N ops i st e∧k e=some r:=by
 unfold n1l at h;split at h
 ·rename_i kk e j off hp
  split at h
  ·rename_i te τ xs hk
   cases hb:(Nat.beq e τ.sz&&Nat.ble off τ.sz)with
   | false=>rw [hb]at h;cases h
   | true=>
    rw [hb]at h;simp only [j2s]at hb;have:=j2t hb.1;subst this;simp only [cond_true,j2w]at h;obtain⟨y,h1,h2⟩:=h;split at h2
    ·rename_i x hx
     exact⟨_, .loadElt ho hp hk hd h1 hb.2 hx,h2⟩
    ·cases h2
  ·cases h
 ·cases h
theorem t0h{t ty:TypeId}{p x:Operand}{pos:String}{after:Array Edge}{guard:Option (Nat×Bool)}(ho:opK ops st.fr i=some ⟨none, .store t p x,ty,pos,after,guard⟩)
  (h:a1k P st t p x k=some r): ∃e,IEff P N ops i st e∧k e=some r:=by
 unfold a1k at h;split at h
 ·rename_i kk e j off hp
  split at h
  ·rename_i te τ xs hk
   split at h
   ·rename_i vs hc
    split at h
    ·rename_i ds had
     split at h
     ·rename_i s hz
      cases hb:(Nat.beq e τ.sz&&Nat.beq ds.length s&&Nat.ble (off+ds.length) τ.sz)with
      | false=>rw [hb]at h;cases h
      | true=>
       rw [hb]at h;simp only [j2s]at hb;have:=j2t hb.1.1;subst this;simp only [cond_true,j2w]at h;obtain⟨y,h1,h2⟩:=h;split at h2
       ·rename_i y' hy'
        exact⟨_, .storeElt ho hp hk hc had hz hb.1.2 hb.2 h1 hy',h2⟩
       ·cases h2
     ·cases h
    ·cases h
   ·cases h
  ·cases h
 ·cases h
theorem s0l{t ty:TypeId}{x hi:Operand}{pos:String}{after:Array Edge}{guard:Option (Nat×Bool)}{kk:Nat}(ho:opK ops st.fr i=some ⟨some d, .slice t x none (some hi) none,ty,pos,after,guard⟩)(hd:Nat.blt d N=true)(hx:ev st.fr x= .cell (.own kk))
  (h:b1q P st d t kk hi k=some r): ∃e,IEff P N ops i st e∧k e=some r:=by
 unfold b1q at h;split at h
 ·rename_i te e ht
  split at h
  ·rename_i te' τ xs hk
   split at h
   ·rename_i q hq
    cases hb:(Nat.beq e τ.sz&&Nat.blt kk 2000000)with
    | false=>rw [hb]at h;cases h
    | true=>
     rw [hb]at h;simp only [j2s]at hb;have:=j2t hb.1;subst this;simp only [cond_true,j2w]at h;obtain⟨y,h1,h2⟩:=h;unfold cut? at h1;split at h1
     ·rename_i h0
      cases h1;exact⟨_, .shrinkN ho hx hk ht hq hd h0.1 h0.2 hb.2,h2⟩
     ·cases h1
   ·cases h
  ·cases h
 ·cases h
theorem a1m{t ty:TypeId}{x lo:Operand}{pos:String}{after:Array Edge}{guard:Option (Nat×Bool)}{kk:Nat}(ho:opK ops st.fr i=some ⟨some d, .slice t x (some lo) none none,ty,pos,after,guard⟩)(hd:Nat.blt d N=true)(hx:ev st.fr x= .cell (.own kk))
  (h:y1x P st d t kk lo k=some r): ∃e,IEff P N ops i st e∧k e=some r:=by
 unfold y1x at h;split at h
 ·rename_i te e ht
  split at h
  ·rename_i te' τ xs hk
   split at h
   ·rename_i q hq
    cases hb:Nat.beq e τ.sz with
    | false=>rw [hb]at h;cases h
    | true=>
     rw [hb,cond_true]at h;have:=j2t hb;subst this;obtain⟨h1,h2⟩:=d1l h;have h1:=of_decide_eq_true h1;exact⟨_, .restOwnN ho hx hk ht hq hd h1.1 h1.2,h2⟩
   ·cases h
  ·cases h
 ·cases h
theorem v0x{t ty:TypeId}{x:Operand}{pos:String}{after:Array Edge}{guard:Option (Nat×Bool)}(ho:opK ops st.fr i=some ⟨none, .call ⟨.builtin .clear,⟨[x]⟩,⟨[t]⟩⟩,ty,pos,after,guard⟩)
  (h:l1l P st t x k=some r): ∃e,IEff P N ops i st e∧k e=some r:=by
 unfold l1l at h;split at h
 ·rename_i kk e lo m hx
  split at h
  ·rename_i te' τ xs hk
   split at h
   ·rename_i te e2 ht
    split at h
    ·rename_i z hz
     split at h
     ·rename_i zv hzv
      cases hb:(Nat.beq e τ.sz&&Nat.beq e2 τ.sz&&Nat.beq z.length τ.sz)with
      | false=>rw [hb]at h;cases h
      | true=>
       rw [hb,cond_true]at h;simp only [j2s]at hb;have e1:=j2t hb.1.1;have e2' :=j2t hb.1.2;subst e1;subst e2';obtain⟨h1,h2⟩:=d1l h;exact⟨_, .clearN ho hx hk ht hz (j2t hb.2) hzv (k2d h1),h2⟩
     ·cases h
    ·cases h
   ·cases h
  ·cases h
 ·cases h
omit [Tabs]in
theorem q1o{x:AV}{cs:List D}(h:k1f x=some cs):x= .aggD cs:=by
 unfold k1f at h;split at h
 ·cases h;rfl
 ·cases h
theorem y0y{t ty:TypeId}{x ii:Operand}{pos:String}{after:Array Edge}{guard:Option (Nat×Bool)}{cs:List D}(ho:opK ops st.fr i=some ⟨some d, .index t x ii,ty,pos,after,guard⟩)(hd:Nat.blt d N=true)(hx:ev st.fr x= .aggD cs)
  (h:m1m P T st d t cs ii k=some r): ∃e,IEff P N ops i st e∧k e=some r:=by
 unfold m1m at h;split at h
 ·rename_i n e hu
  split at h
  ·rename_i τ hτ
   split at h
   ·rename_i s hs
    split at h
    ·rename_i xs hxs
     split at h
     ·rename_i q j hj
      cases hb:Nat.beq s τ.sz with
      | false=>rw [hb]at h;cases h
      | true=>
       rw [hb,cond_true]at h;have:=j2t hb;subst this;simp only [j2w]at h;obtain⟨y,h1,h2⟩:=h;unfold ix at h1;split at h1
       ·rename_i h0
        split at h2
        ·rename_i z hz
         exact⟨_, .arrIndex ho hu hs hx hxs hj hd h0 h1 hz,h2⟩
        ·cases h2
       ·cases h1
     ·cases h
    ·cases h
   ·cases h
  ·cases h
 ·cases h
omit [Tabs]in
theorem k1s{x:AV}{cs:List AC}(h:n1h x=some cs):x= .agg cs:=by
 unfold n1h at h;split at h
 ·cases h;rfl
 ·cases h
omit [Tabs]in
theorem e1j{e s:Nat}{cs:List AC}{j:Int}{k:Eff→Option ρ}: ∀(m q:Nat),s1k P d e s cs j k m q=some r→∃p z,p<q+m∧j=(p:Int)∧i0h P e (cs.drop (p*s))=some z∧z.plain=true∧k (.put d z)=some r
 | 0,q,h=>by cases h
 | m+1,q,h=>by
  rw [s1k]at h;cases hj:j==(q:Int)with
  | true=>
   rw [hj,cond_true]at h;split at h
   ·rename_i z hz
    cases hp:z.plain with
    | false=>rw [hp]at h;cases h
    | true=>rw [hp]at h;exact⟨q,z,by omega,by simpa using hj,hz,hp,h⟩
   ·cases h
  | false=>
   rw [hj,cond_false]at h;obtain⟨p,z,h1,h2⟩:=e1j m (q+1) h;exact⟨p,z,by omega,h2⟩
theorem x0f{t ty:TypeId}{x ii:Operand}{pos:String}{after:Array Edge}{guard:Option (Nat×Bool)}{cs:List AC}(ho:opK ops st.fr i=some ⟨some d, .index t x ii,ty,pos,after,guard⟩)(hd:Nat.blt d N=true)(hx:ev st.fr x= .agg cs)
  (h:p1e P st d t cs ii k=some r): ∃e,IEff P N ops i st e∧k e=some r:=by
 unfold p1e at h;split at h
 ·rename_i n e hu
  split at h
  ·rename_i s hs
   split at h
   ·rename_i kk j hj
    obtain⟨p,z,h1,h2,h3,h4,h5⟩:=e1j _ _ h;subst h2;exact⟨_, .aggIndex ho hu hs hx hj hd (by omega) h3 h4,h5⟩
   ·cases h
  ·cases h
 ·cases h
omit [Tabs]in
theorem v0j{x:AV}(h:q0p x=true):x= .cell (.d (.sc (.slice none 0 0))):=by
 unfold q0p at h;split at h
 ·rfl
 ·cases h
theorem b1b{t ty:TypeId}{x:Operand}{lo hi:Option Operand}{pos:String}{after:Array Edge}{guard:Option (Nat×Bool)}(ho:opK ops st.fr i=some ⟨some d, .slice t x lo hi none,ty,pos,after,guard⟩)(hd:Nat.blt d N=true)(hx:ev st.fr x= .cell (.d (.sc (.slice none 0 0))))
  (h:a2k P st d t lo hi k=some r): ∃e,IEff P N ops i st e∧k e=some r:=by
 unfold a2k at h;split at h
 ·rename_i te ht
  split at h
  ·rename_i p hp
   split at h
   ·rename_i q hq
    obtain⟨h1,h2⟩:=d1l h;have h1:=of_decide_eq_true h1;rw [h1.1]at hp;rw [h1.2]at hq;exact⟨_, .sliceNil ho hx ht hp hq hd,h2⟩
   ·cases h
  ·cases h
 ·cases h
omit [Tabs]in
theorem k1w{t:TypeId}(h:r0j P t=true): ∃k,P.underlying t=some (.int k):=by
 unfold r0j at h;split at h
 ·exact⟨_,by assumption⟩
 ·cases h
theorem b1e{t tn ty:TypeId}{s y:Operand}{pos:String}{after:Array Edge}{guard:Option (Nat×Bool)}(ho:opK ops st.fr i=some ⟨some d, .call ⟨.builtin .append,⟨[s,y]⟩,⟨[t,tn]⟩⟩,ty,pos,after,guard⟩)(hd:Nat.blt d N=true)(hn:r0j P tn=true)
  (h:x1c P T st d t tn s y k=some r): ∃e,IEff P N ops i st e∧k e=some r:=by
 obtain⟨kn,htn⟩:=k1w hn;unfold x1c at h;split at h
 ·rename_i te e bytes ht
  split at h
  ·rename_i τ hτ
   split at h
   ·rename_i z hz
    split at h
    ·rename_i zv hzv
     split at h
     ·rename_i q j hj
      cases hb:(q0p (ev st.fr s)&&Nat.beq e τ.sz&&Nat.beq z.length τ.sz)with
      | false=>rw [hb]at h;cases h
      | true=>
       rw [hb,cond_true]at h;simp only [j2s]at hb;have e1:=j2t hb.1.2;subst e1;obtain⟨h1,h2⟩:=d1l h;simp only [j2s]at h1;exact⟨_, .appendZ ho (v0j hb.1.1) hj ht htn hz (j2t hb.2) hzv hd (of_decide_eq_true h1.1) h1.2,h2⟩
     ·cases h
    ·cases h
   ·cases h
  ·cases h
 ·cases h
omit [Tabs]in
theorem m1d{x:AV}{p:Nat×Nat}(h:q1c x=some p):x= .cell (.ptr p.1 p.2):=by
 unfold q1c at h;split at h
 ·cases h;rfl
 ·cases h
theorem x0i{t ty:TypeId}{x ii:Operand}{pos:String}{after:Array Edge}{guard:Option (Nat×Bool)}{kk off:Nat}(ho:opK ops st.fr i=some ⟨some d, .indexAddr t x ii,ty,pos,after,guard⟩)(hd:Nat.blt d N=true)(hx:ev st.fr x= .cell (.ptr kk off))
  (h:o1n P st d t kk off ii k=some r): ∃e,IEff P N ops i st e∧k e=some r:=by
 unfold o1n at h;split at h
 ·rename_i cs oty hob
  split at h
  ·rename_i n e hu
   split at h
   ·rename_i s hs
    split at h
    ·rename_i ki q hi
     cases hb:Nat.blt q n with
     | false=>rw [hb]at h;cases h
     | true=>
      rw [hb,cond_true]at h;refine⟨_, .of_opK ho (.of_plain rfl hd rfl fun F ρ a w hr=> ?_),h⟩;have hv:=a0f hr x;rw [hx]at hv;have hiv:=(a0n (a0f hr ii) (by rw [hi];rfl)).1;have hob' :=hr.ob kk;rw [hob]at hob';cases hob' with
      | box cs oty b c t2 hoty hk hbb hs2 hh=>
       have hxv:a.eval x= .pointer (some ⟨b,off,none⟩):=by
        generalize a.eval x=xv at hv;cases hv with
        | cell _ _ hv=>cases hv with
         | ptr _ _ _ hv=>exact hv b hk
       have hq:((q:Int))< (n:Int):=Int.ofNat_lt.2 (a0j hb);refine⟨.pointer (some ⟨b,off+q*s,none⟩), ?_, .cell _ _ (.ptr _ _ _ fun b' hb' => ?_)⟩
       ·have hiv' :a.eval ii= .int ki (q:Int):=hiv
        simp [execOp,hxv,hiv',Instr.indexAt,Instr.sureAddr,asIntOf,run_underlying hu,hq,a0l hs,Addr.add_lit];intro hc;have:=a0j hb;omega
       ·rw [hk]at hb'
        cases hb';rfl
    ·cases h
   ·cases h
  ·cases h
 ·cases h
theorem o0e{o:Oper}(ho:opK ops st.fr i=some o)(h:t1f P N T st o k=some r): ∃e,IEff P N ops i st e∧k e=some r:=by
 unfold t1f at h;obtain⟨dst,op,ty,pos,after,guard⟩:=o;dsimp only at h;split at h
 ·split at h
  ·exact t0h ho h
  ·exact v0x ho h
  ·rw [j2w]at h
   obtain⟨e,h1,h2⟩:=h;exact⟨e, .of_opK ho (e1w (.inl rfl) rfl h1),h2⟩
  ·rw [j2w]at h
   obtain⟨e,h1,h2⟩:=h;exact⟨e, .of_opK ho (e1w (.inr rfl) rfl h1),h2⟩
  ·obtain⟨e,h1,h2⟩:=r1x (N:=N) (P:=P) (o:=⟨none,_,ty,pos,after,guard⟩) rfl rfl h
   exact⟨e, .of_opK ho h1,h2⟩
  ·cases h
 ·rename_i d
  cases hd:Nat.blt d N with
  | false=>rw [hd]at h;cases h
  | true=>
   rw [hd,cond_true]at h;split at h
   ·exact v0w ho hd h
   ·split at h
    ·rename_i kk hx
     exact s0g ho hd (s0x hx) h
    ·split at h
     ·rename_i p hx
      exact x0i ho hd (m1d hx) h
     ·exact y0w ho hd h
   ·cases hn:q0p (ev st.fr _)with
    | true=>rw [hn,cond_true]at h;exact b1b ho hd (v0j hn) h
    | false=>
    rw [hn,cond_false]at h;split at h
    ·rename_i kk hx
     exact s0l ho hd (s0x hx) h
    ·exact g0s ho hd h
   ·split at h
    ·rename_i kk hx
     exact a1m ho hd (s0x hx) h
    ·exact g0s ho hd h
   ·split at h
    ·rename_i cs hx
     exact y0y ho hd (q1o hx) h
    ·split at h
     ·rename_i cs hx
      exact x0f ho hd (k1s hx) h
     ·exact g1r ho hd h
   ·exact g0s ho hd h
   ·exact u0b ho hd h
   ·exact b1x ho hd h
   ·exact a1y ho hd h
   ·exact g1v ho hd h
   ·cases hn:r0j P _ with
    | true=>rw [hn,cond_true]at h;exact b1e ho hd hn h
    | false=>
    rw [hn,cond_false]at h;split at h
    ·rename_i p hp
     obtain⟨h1,h2⟩:=d1l h;exact⟨_,o0l ho hp h1,h2⟩
    ·exact l0m ho h
   ·split at h
    ·rename_i e he
     exact⟨e, .of_opK ho (r1r rfl rfl he),h⟩
    ·exact l0m ho h
   ·split at h
    ·rename_i p hp
     obtain⟨h1,h2⟩:=d1l h;exact⟨_,o0l ho hp h1,h2⟩
    ·exact l0m ho h
   ·rw [j2w]at h
    obtain⟨e,h1,h2⟩:=h;exact⟨e, .of_opK ho (s1z rfl h1),h2⟩
   ·rw [j2w]at h
    obtain⟨e,h1,h2⟩:=h;exact⟨e, .of_opK ho (h1e rfl h1 rfl),h2⟩
   ·rw [j2w]at h
    obtain⟨e,h1,h2⟩:=h;exact⟨e, .of_opK ho (n1a rfl h1),h2⟩
   ·cases h
theorem f0b{o:Oper}(ho:opK ops st.fr i=some o)(h:kOp P N T st o k=some r): ∃e,IEff P N ops i st e∧k e=some r:=by
 unfold kOp at h;cases hb:(v1s st o || h2k P o)with
 | true=>rw [hb]at h;exact o0e ho h
 | false=>
  rw [hb,cond_false]at h;split at h
  ·rename_i e he
   split at h
   ·rename_i e' he'
    exact⟨e',l1f he' (.of_opK ho (p0z he)),h⟩
   ·cases h
  ·exact o0e ho h
end
end Esp

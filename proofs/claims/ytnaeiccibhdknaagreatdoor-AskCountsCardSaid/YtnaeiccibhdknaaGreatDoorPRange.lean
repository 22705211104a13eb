import Derived.Test.YtnaeiccibhdknaaGreatDoorPLib
set_option linter.unusedSimpArgs false
set_option linter.unusedVariables false
namespace Pure
open Esp Ev Go
def a0b{α σ ρ:Type}(f:Int->α->σ->(σ->Option ρ)->Option ρ)(k:σ->Option ρ):Int->List α->σ->Option ρ
 |_,[],s=>k s
 |i,x::r,s=>f i x s (a0b f k (i+1) r)
theorem o0m{α σ τ ρ:Type}(len:Nat)(get:Int->Option α)(enc:Int->σ->τ)(step:(τ->Option ρ)->τ->Option ρ)(f:Int->α->σ->(σ->Option ρ)->Option ρ)(k:σ->Option ρ)
  (h:∀rec i s,step rec (enc i s)=bif decide (i<(len:Int))then(get i).bind λx=>f i x s (λs' =>rec (enc (wI (i+1)) s'))else k s)(hl:len<=9223372036854775807)
  {l:List α}(hlen:l.length=len)(hg:∀(p:List α) x r,l=p++x::r->get (p.length:Int)=some x):
  ∀(r p:List α),l=p++r->∀(fuel:Nat) (s:σ),r.length<fuel->a0a step fuel (enc (p.length:Int) s)=a0b f k (p.length:Int) r s:=by
 intro r
 induction r with
 |nil=>
  intro p hp fuel s hf;obtain⟨m,rfl⟩:∃m,fuel=m+1:=⟨fuel - 1,by omega⟩;have e:decide ((p.length:Int)<(len:Int))=false:=by rw[decide_eq_false_iff_not, <-hlen];subst hp;simp
  rw[a0a,h,e,u2k,a0b]
 |cons x r ih=>
  intro p hp fuel s hf;obtain⟨m,rfl⟩:∃m,fuel=m+1:=⟨fuel - 1,by omega⟩;have iN:l.length=p.length+(r.length+1):=by rw[hp];simp
  have e:decide ((p.length:Int)<(len:Int))=true:=by rw[decide_eq_true_iff];omega
  have e3:wI ((p.length:Int)+1)=((p++ [x]).length:Int):=by rw[a0f (by omega) (by omega)];simp
  have e4:(λs' =>a0a step m (enc (wI ((p.length:Int)+1)) s'))=a0b f k ((p.length:Int)+1) r:=by
   funext s';rw[e3,ih (p++ [x]) (by simp[hp]) m s' (by simp at hf;omega)];simp
  rw[a0a,h,e,hg p x r hp,u2j,r2g,e4,a0b]
theorem a0c{α σ τ ρ:Type}(l:List α)(enc:Int->σ->τ)(step:(τ->Option ρ)->τ->Option ρ)(f:Int->α->σ->(σ->Option ρ)->Option ρ)(k:σ->Option ρ)
  (h:∀rec i s,step rec (enc i s)=bif decide (i<(l.length:Int))then(ix l i).bind λx=>f i x s (λs' =>rec (enc (wI (i+1)) s'))else k s)(hl:l.length<=9223372036854775807)
  (fuel:Nat)(s:σ)(hf:l.length<fuel):a0a step fuel (enc 0 s)=a0b f k 0 l s:=
 o0m l.length (ix l) enc step f k h hl rfl (λp x r hp=>a0r (by rw[hp];simp)) l [] rfl fuel s hf
theorem c0j{α σ τ ρ:Type}(l:List α)(enc:Int->σ->τ)(step:(τ->Option ρ)->τ->Option ρ)(f:Int->α->σ->(σ->Option ρ)->Option ρ)(k:σ->Option ρ)
  (h:∀rec i s,step rec (enc i s)=bif decide (i<(l.length:Int))then(ix l i).bind λx=>f i x s (λs' =>rec (enc (wI (i+1)) s'))else k s)(hl:l.length<=4611686018427387904)
  (fuel:Nat)(s:σ)(hf:l.length<fuel):a0a step fuel (enc 0 s)=a0b f k 0 l s:=
 o0m l.length (ix l) enc step f k h (t2p hl (by omega)) rfl (λp x r hp=>a0r (by rw[hp];simp)) l [] rfl fuel s hf
theorem q1m{σ τ ρ:Type}(s0:Bt)(enc:Int->σ->τ)(step:(τ->Option ρ)->τ->Option ρ)(f:Int->Int->σ->(σ->Option ρ)->Option ρ)(k:σ->Option ρ)
  (h:∀rec i s,step rec (enc i s)=bif decide (i<(s0.size:Int))then(sat s0 i).bind λx=>f i x s (λs' =>rec (enc (wI (i+1)) s'))else k s)(hl:s0.size<=4611686018427387904)
  (fuel:Nat)(s:σ)(hf:s0.size<fuel):a0a step fuel (enc 0 s)=a0b f k 0 (bi s0.data.toList) s:=by
 have hlen:(bi s0.data.toList).length=s0.size:=by rw[d0o];rfl
 refine o0m s0.size (sat s0) enc step f k h (t2p hl (by omega)) hlen (λp x r hp=>?_) (bi s0.data.toList) [] rfl fuel s (by omega);have h1:(bi s0.data.toList)[p.length]?=some x:=by rw[hp];simp
 unfold sat;rw[if_pos (by omega)];simp only[bi,t2a,t2f]at h1⊢;exact h1
end Pure

import Derived.Test.YtcloicgnanjbcaaGreatDoorPLib
namespace Pure
open Esp Ev Go
set_option linter.unusedSimpArgs false
set_option linter.unusedVariables false
def a0c{α σ ρ:Type}(f:Int→α→σ→(σ→Option ρ)→Option ρ)(k:σ→Option ρ):Int→List α→σ→Option ρ
 | _, [],s=>k s
 | i,x::r,s=>f i x s (a0c f k (i+1) r)
theorem l0i{α σ τ ρ:Type}(len:Nat)(get:Int→Option α)(enc:Int→σ→τ)(step:(τ→Option ρ)→τ→Option ρ)(f:Int→α→σ→(σ→Option ρ)→Option ρ)(k:σ→Option ρ)
  (h: ∀rec i s,step rec (enc i s)=bif decide (i< (len:Int))then(get i).bind fun x=>f i x s (fun s' =>rec (enc (IntKind.wrap .i64 (i+1)) s'))else k s)(hl:len≤9223372036854775807)
  {l:List α}(hlen:l.length=len)(hg: ∀(p:List α) x r,l=p++x::r→get (p.length:Int)=some x):
  ∀(r p:List α),l=p++r→∀(fuel:Nat) (s:σ),r.length<fuel→a0a step fuel (enc (p.length:Int) s)=a0c f k (p.length:Int) r s:=by
 intro r
 induction r with
 | nil=>
  intro p hp fuel s hf;obtain⟨m,rfl⟩: ∃m,fuel=m+1:=⟨fuel - 1,by omega⟩;have e:decide ((p.length:Int)< (len:Int))=false:=by rw [decide_eq_false_iff_not, ←hlen];subst hp;simp
  rw [a0a,h,e,cond_false,a0c]
 | cons x r ih=>
  intro p hp fuel s hf;obtain⟨m,rfl⟩: ∃m,fuel=m+1:=⟨fuel - 1,by omega⟩;have hll:l.length=p.length+(r.length+1):=by rw [hp];simp
  have e:decide ((p.length:Int)< (len:Int))=true:=by rw [decide_eq_true_iff];omega
  have e3:IntKind.wrap .i64 ((p.length:Int)+1)=((p++ [x]).length:Int):=by rw [a0h (by omega) (by omega)];simp
  have e4:(fun s' =>a0a step m (enc (IntKind.wrap .i64 ((p.length:Int)+1)) s'))=a0c f k ((p.length:Int)+1) r:=by
   funext s';rw [e3,ih (p++ [x]) (by simp [hp]) m s' (by simp at hf;omega)];simp
  rw [a0a,h,e,hg p x r hp,cond_true,j2r,e4,a0c]
theorem a0d{α σ τ ρ:Type}(l:List α)(enc:Int→σ→τ)(step:(τ→Option ρ)→τ→Option ρ)(f:Int→α→σ→(σ→Option ρ)→Option ρ)(k:σ→Option ρ)
  (h: ∀rec i s,step rec (enc i s)=bif decide (i< (l.length:Int))then(ix l i).bind fun x=>f i x s (fun s' =>rec (enc (IntKind.wrap .i64 (i+1)) s'))else k s)(hl:l.length≤9223372036854775807)
  (fuel:Nat)(s:σ)(hf:l.length<fuel):a0a step fuel (enc 0 s)=a0c f k 0 l s:=
 l0i l.length (ix l) enc step f k h hl rfl (fun p x r hp=>a0k (by rw [hp];simp)) l [] rfl fuel s hf
theorem a0y{α σ τ ρ:Type}(l:List α)(enc:Int→σ→τ)(step:(τ→Option ρ)→τ→Option ρ)(f:Int→α→σ→(σ→Option ρ)→Option ρ)(k:σ→Option ρ)
  (h: ∀rec i s,step rec (enc i s)=bif decide (i< (l.length:Int))then(ix l i).bind fun x=>f i x s (fun s' =>rec (enc (IntKind.wrap .i64 (i+1)) s'))else k s)(hl:l.length≤4611686018427387904)
  (fuel:Nat)(s:σ)(hf:l.length<fuel):a0a step fuel (enc 0 s)=a0c f k 0 l s:=
 l0i l.length (ix l) enc step f k h (k2x hl (by omega)) rfl (fun p x r hp=>a0k (by rw [hp];simp)) l [] rfl fuel s hf
theorem o1l{σ τ ρ:Type}(s0:ByteArray)(enc:Int→σ→τ)(step:(τ→Option ρ)→τ→Option ρ)(f:Int→Int→σ→(σ→Option ρ)→Option ρ)(k:σ→Option ρ)
  (h: ∀rec i s,step rec (enc i s)=bif decide (i< (s0.size:Int))then(sat s0 i).bind fun x=>f i x s (fun s' =>rec (enc (IntKind.wrap .i64 (i+1)) s'))else k s)(hl:s0.size≤4611686018427387904)
  (fuel:Nat)(s:σ)(hf:s0.size<fuel):a0a step fuel (enc 0 s)=a0c f k 0 (bi s0.data.toList) s:=by
 have hlen:(bi s0.data.toList).length=s0.size:=by rw [o1d];rfl
 refine l0i s0.size (sat s0) enc step f k h (k2x hl (by omega)) hlen (fun p x r hp=> ?_) (bi s0.data.toList) [] rfl fuel s (by omega);have h1:(bi s0.data.toList)[p.length]? =some x:=by rw [hp];simp
 unfold sat;rw [if_pos (by omega)];simp only [bi,l2d,l2k]at h1⊢;exact h1
end Pure

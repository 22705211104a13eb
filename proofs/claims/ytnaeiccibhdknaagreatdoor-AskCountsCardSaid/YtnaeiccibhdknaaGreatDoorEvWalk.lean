import Derived.Test.YtnaeiccibhdknaaGreatDoorEvFn
import Derived.Sort.EncStr
import Derived.Sort.Grow
import Derived.Sort.Row
import Derived.Deep.Upon
set_option linter.unusedSimpArgs false
set_option linter.unusedVariables false
namespace Esp
open Go Go.Sort Go.Proofs
section
variable{α:Type} [Inhabited α] {enc:α->Value}{w w' :World}{g cap n base:Nat}{te:TypeId}
theorem w1p{v:Value}{xs:List Value}(ho:w.ownsRow base te 1 v n xs):(v=.slice none 0 0/\n=0)\/ ∃g cap,v=.slice (some ⟨g,0,none⟩) n cap/\n<=cap/\cap<=maxLen:=by
 rcases ho.2 with h|⟨g2,cap2,cur,dP,hg,e9,aU,hm,bE,bK⟩
 ·exact .inl h
 ·exact .inr ⟨g2,cap2,dP,aU,hm⟩
theorem a1n{v:Value}{xs:List Value}(ho:w.ownsRow base te 1 v n xs)(hb:RowKit.Below w.heap.size w w'):w'.ownsRow base te 1 v n xs:=by
 refine⟨ho.1,?_⟩;rcases ho.2 with h0|⟨g2,cap2,cur,dP,hg,e9,r⟩
 ·exact .inl h0
 ·exact .inr ⟨g2,cap2,cur,dP,hg,(hb.block _ (r2r.1 e9).1).trans e9,r⟩
theorem w0o{P:Program}{W W' :World}{o:Oper}{a:Act}{K:Act->World->Prop}{Q:Exit->Act->World->Prop}(s x:Operand)(t:TypeId)
  (ho:o.op=.call {callee:=.builtin .append,args:=#[s,x],argTypes:=#[t,t]})(v u v' :Value)(hs:a.eval s=v)(hx:a.eval x=u)
  (hr:(Builtin.append_ #[t,t] o.type #[v,u]).run P W=.ok v' W')(h:K (a.put o.dst v') W'):o.wp P a W K Q:=by
 unfold Oper.wp execOp;simp only[ho,resolve,invoke,builtin,Sem.run_bind,Sem.run_pure,Result.andThen_ok,List.map_toArray,r2z,t2u,hs,hx,hr];exact h
end
section
theorem u0n{w:World}{F:Nat->Prop}{u v:Value}(h:RelD w F (.sc u) v):v=u:=by
 cases h with
 |sc _ _=>rfl
theorem e2g{w:World}{F:Nat->Prop}{t:Ev.Ty}{l:List t.den}{v:Value}(h:RelD w F (.nl t l) v):RelD w F (.sl t.sz l.length (flat t l)) v:=by
 cases h with
 |nl _ _ _ h=>exact h
theorem b2u{w:World}{F:Nat->Prop}{t:Ev.Ty}{l:List t.den}{v:Value}(h:RelD w F (.nl t l) v):∃p q r,v=.slice p q r:=by
 have h:=e2g h;generalize bS:flat t l=fl at h;generalize nK:l.length=ln at h;cases h with
 |nil e a cap=>exact⟨_,_,_,rfl⟩
 |sl=>exact⟨_,_,_,rfl⟩
theorem y1h{t:Ev.Ty}{l:List t.den}{i j:Nat}(hi:i<l.length)(hj:j<t.sz):(flat t l)[i*t.sz+j]?=(cells t l[i])[j]?:=by
 have h:=x1c t (xs:=l) (i:=i) (x:=l[i]) (by simp[hi]);rw [<-h,t2x,if_pos hj,List.getElem?_drop]
theorem n2t{w:World}{F:Nat->Prop}{e n:Nat}{cs:List D}{v:Value}(h:RelD w F (.sl e n cs) v):(n=0/\∃a cap,v=.slice a 0 cap)\/
  ∃b off cap,∃c:Nat->Value,v=.slice (some ⟨b,off,none⟩) n cap/\F b/\(∀i,i<cs.length->w.cell? ⟨b,off+i,none⟩=some (c i))/\ ∀i (h:i<cs.length),RelD w F cs[i] (c i):=by
 cases h with
 |nil e a cap=>exact .inl ⟨rfl,a,cap,rfl⟩
 |sl e nn cs b off cap c hF hl aU hc hr=>exact .inr ⟨b,off,cap,c,rfl,hF,hc,hr⟩
theorem z1k{w:World}{F:Nat->Prop}{t:Ev.Ty}{l:List t.den}{v:Value}(h:RelD w F (.nl t l) v):∃ao b off cap,v=.slice ao l.length cap/\(l.length≠0->ao=some ⟨b,off,none⟩)/\(l.length≠0->F b)/\
  ∀i (hi:i<l.length),∀j,j<t.sz->∃x c,(cells t l[i])[j]?=some x/\w.cell? ⟨b,off+(i*t.sz+j),none⟩=some c/\RelD w F x c:=by
 rcases n2t (e2g h)with⟨h0,a,cap,rfl⟩| ⟨b,off,cap,c,rfl,hF,hc,hr⟩
 ·exact⟨a,0,0,cap,by rw[h0],λh=>absurd h0 h,λh=>absurd h0 h,λi hi=>by omega⟩
 ·refine⟨some ⟨b,off,none⟩,b,off,cap,rfl,λ_=>rfl,λ_=>hF,λi hi j hj=>?_⟩
  have aJ:i*t.sz+j<(flat t l).length:=by
   rw[b0j];have:(i+1)*t.sz<=l.length*t.sz:=t2b _ hi;rw[t2w]at this;omega
  have e1:=y1h (t:=t) (l:=l) (i:=i) (j:=j) hi hj;rw[r2k aJ]at e1;exact⟨_,_,e1.symm,hc _ aJ,hr _ aJ⟩
def nobody:Env:=λ_=>none
end
end Esp

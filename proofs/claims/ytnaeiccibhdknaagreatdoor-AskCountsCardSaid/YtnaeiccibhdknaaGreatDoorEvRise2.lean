import Derived.Test.YtnaeiccibhdknaaGreatDoorEvRead6
set_option linter.unusedSimpArgs false
set_option linter.unusedVariables false
namespace Esp
end Esp
namespace Esp
structure LtOk{α:Type}(lt:α->α->Bool):Prop where
 irrefl:∀x,lt x x=false
 trans:∀x y z,lt x y=true->lt y z=true->lt x z=true
 ntrans:∀x y z,lt x y=false->lt y z=false->lt x z=false
 anti:∀x y,lt x y=false->lt y x=false->x=y
def i0p{α:Type}(lt:α->α->Bool)(l:List α):List α:=l.mergeSort λx y=> !lt y x
theorem u0s{α:Type}(lt:α->α->Bool)(l:List α):(i0p lt l).Perm l:=List.mergeSort_perm l _
theorem p0f{α:Type}(lt:α->α->Bool)(l:List α):(i0p lt l).length=l.length:=(u0s lt l).length_eq
theorem l1m{α:Type}{lt:α->α->Bool}(h:LtOk lt)(l:List α):(i0p lt l).Pairwise (λx y=>lt y x=false):=by
 have hs:(i0p lt l).Pairwise (λx y=>(!lt y x)=true):=List.pairwise_mergeSort (λa b c h1 h2=>by
  simp only[s2v]at*;exact h.ntrans _ _ _ h2 h1) (λa b=>by
  cases h1:lt b a with
  |false=>rfl
  |true=>cases h2:lt a b with
   |false=>rfl
   |true=>have:=h.trans _ _ _ h1 h2;rw[h.irrefl]at this;cases this) l
 exact hs.imp λh=>by simpa using h
theorem r0b{α:Type}{lt:α->α->Bool}(h:LtOk lt):∀{l m:List α},l.Perm m->l.Pairwise (λx y=>lt y x=false)->m.Pairwise (λx y=>lt y x=false)->l=m
 |[],m,hp,_,_=>(List.nil_perm.1 hp).symm
 |a::r,m,hp,hl,hm=>by
  cases m with
  |nil=>exact absurd hp.symm (by simp)
  |cons b q=>
   have fV:a=b:=by
    have h1:a∈b::q:=hp.mem_iff.1 (by simp);have h2:b∈a::r:=hp.mem_iff.2 (by simp);rcases r2s.1 h1 with e|h1
    ·exact e
    ·rcases r2s.1 h2 with e|h2
     ·exact e.symm
     ·exact h.anti _ _ (List.rel_of_pairwise_cons hm h1) (List.rel_of_pairwise_cons hl h2)
   subst fV;rw[r0b h hp.cons_inv (t2l.1 hl).2 (t2l.1 hm).2]
theorem z1h{α:Type}{lt:α->α->Bool}(h:LtOk lt){l m:List α}(hp:l.Perm m)(hm:m.Pairwise (λx y=>lt y x=false)):i0p lt l=m:=
 r0b h ((u0s lt l).trans hp) (l1m h l) hm
end Esp

import Derived.Test.YtnaeiccibhdknaaGreatDoorEvRead6
set_option linter.unusedSimpArgs false
set_option linter.unusedVariables false
namespace Esp
end Esp
namespace Esp
structure LtOk{α:Type}(lt:α->α->Bool):Prop where
 irrefl:∀x,lt x x=false
 trans:∀x y z,lt x y=true->lt y z=true->lt x z=true
 ntrans:∀x y z,lt x y=false->lt y z=false->lt x z=false
 anti:∀x y,lt x y=false->lt y x=false->x=y
def i0j{α:Type}(lt:α->α->Bool)(l:List α):List α:=l.mergeSort λx y=> !lt y x
theorem v0b{α:Type}(lt:α->α->Bool)(l:List α):(i0j lt l).Perm l:=List.mergeSort_perm l _
theorem o0w{α:Type}(lt:α->α->Bool)(l:List α):(i0j lt l).length=l.length:=(v0b lt l).length_eq
theorem m1h{α:Type}{lt:α->α->Bool}(h:LtOk lt)(l:List α):(i0j lt l).Pairwise (λx y=>lt y x=false):=by
 have hs:(i0j lt l).Pairwise (λx y=>(!lt y x)=true):=List.pairwise_mergeSort (λa b c h1 h2=>by
  simp only[s2k]at*;exact h.ntrans _ _ _ h2 h1) (λa b=>by
  cases h1:lt b a with
  |false=>rfl
  |true=>cases h2:lt a b with
   |false=>rfl
   |true=>have:=h.trans _ _ _ h1 h2;rw[h.irrefl]at this;cases this) l
 exact hs.imp λh=>by simpa using h
theorem q0s{α:Type}{lt:α->α->Bool}(h:LtOk lt):∀{l m:List α},l.Perm m->l.Pairwise (λx y=>lt y x=false)->m.Pairwise (λx y=>lt y x=false)->l=m
 |[],m,hp,_,_=>(List.nil_perm.1 hp).symm
 |a::r,m,hp,hl,hm=>by
  cases m with
  |nil=>exact absurd hp.symm (by simp)
  |cons b q=>
   have fX:a=b:=by
    have h1:a∈b::q:=hp.mem_iff.1 (by simp);have h2:b∈a::r:=hp.mem_iff.2 (by simp);rcases r2g.1 h1 with e|h1
    ·exact e
    ·rcases r2g.1 h2 with e|h2
     ·exact e.symm
     ·exact h.anti _ _ (List.rel_of_pairwise_cons hm h1) (List.rel_of_pairwise_cons hl h2)
   subst fX;rw[q0s h hp.cons_inv (List.pairwise_cons.1 hl).2 (List.pairwise_cons.1 hm).2]
theorem y1d{α:Type}{lt:α->α->Bool}(h:LtOk lt){l m:List α}(hp:l.Perm m)(hm:m.Pairwise (λx y=>lt y x=false)):i0j lt l=m:=
 q0s h ((v0b lt l).trans hp) (m1h h l) hm
end Esp

import Derived.Test.YtcloicgnanjbcaaGreatDoorEvTy
namespace Esp
end Esp
namespace Esp
structure LtOk{α:Type}(lt:α→α→Bool):Prop where
 irrefl: ∀x,lt x x=false
 trans: ∀x y z,lt x y=true→lt y z=true→lt x z=true
 ntrans: ∀x y z,lt x y=false→lt y z=false→lt x z=false
 anti: ∀x y,lt x y=false→lt y x=false→x=y
def g0h{α:Type}(lt:α→α→Bool)(l:List α):List α:=l.mergeSort fun x y=> !lt y x
theorem e0z{α:Type}(lt:α→α→Bool)(l:List α):(g0h lt l).Perm l:=List.mergeSort_perm l _
theorem y0r{α:Type}(lt:α→α→Bool)(l:List α):(g0h lt l).length=l.length:=(e0z lt l).length_eq
theorem g1x{α:Type}{lt:α→α→Bool}(h:LtOk lt)(l:List α):(g0h lt l).Pairwise (fun x y=>lt y x=false):=by
 have hs:(g0h lt l).Pairwise (fun x y=>(!lt y x)=true):=List.pairwise_mergeSort (fun a b c h1 h2=>by
  simp only [l2l]at*;exact h.ntrans _ _ _ h2 h1) (fun a b=>by
  cases h1:lt b a with
  | false=>rfl
  | true=>cases h2:lt a b with
   | false=>rfl
   | true=>have:=h.trans _ _ _ h1 h2;rw [h.irrefl]at this;cases this) l
 exact hs.imp fun h=>by simpa using h
theorem p0n{α:Type}{lt:α→α→Bool}(h:LtOk lt): ∀{l m:List α},l.Perm m→l.Pairwise (fun x y=>lt y x=false)→m.Pairwise (fun x y=>lt y x=false)→l=m
 | [],m,hp,_,_=>(List.nil_perm.1 hp).symm
 | a::r,m,hp,hl,hm=>by
  cases m with
  | nil=>exact absurd hp.symm (by simp)
  | cons b q=>
   have hab:a=b:=by
    have h1:a∈b::q:=hp.mem_iff.1 (by simp);have h2:b∈a::r:=hp.mem_iff.2 (by simp);rcases k2b.1 h1 with e | h1
    ·exact e
    ·rcases k2b.1 h2 with e | h2
     ·exact e.symm
     ·exact h.anti _ _ (List.rel_of_pairwise_cons hm h1) (List.rel_of_pairwise_cons hl h2)
   subst hab;rw [p0n h hp.cons_inv (List.pairwise_cons.1 hl).2 (List.pairwise_cons.1 hm).2]
theorem f1l{α:Type}{lt:α→α→Bool}(h:LtOk lt){l m:List α}(hp:l.Perm m)(hm:m.Pairwise (fun x y=>lt y x=false)):g0h lt l=m:=
 p0n h ((e0z lt l).trans hp) (g1x h l) hm
end Esp

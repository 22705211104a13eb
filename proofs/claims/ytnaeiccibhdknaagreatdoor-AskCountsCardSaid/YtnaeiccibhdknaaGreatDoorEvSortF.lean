import Derived.Test.YtnaeiccibhdknaaGreatDoorEvBuild3
import Derived.Shelf.SlSortCmp.WholeK
import Derived.Shelf.SlSortCmp.NoneTotal
set_option linter.unusedSimpArgs false
set_option linter.unusedVariables false
namespace Esp
open Go
variable [Tabs]
def cmpI(i j:Int):Int:=if i<j then -1 else if i>j then 1 else 0
def F_sf(te:Nat)(τ:Ev.Ty)(g:Nat):FnT:=⟨2,⟨[(0,.own 2000000),(1,.fn g)],[],[(2000000,.arr te τ)],[]⟩,[],[(2000000,.arr te τ)]⟩
section
variable{P:Program}{r:Go.Shelf.Ren}
open Go.Sort Go.Proofs
end
end Esp

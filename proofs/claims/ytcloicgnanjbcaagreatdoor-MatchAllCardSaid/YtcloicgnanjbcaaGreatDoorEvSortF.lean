import Derived.Test.YtcloicgnanjbcaaGreatDoorEvFn
import Derived.Test.YtcloicgnanjbcaaGreatDoorEvAv
import Derived.Test.YtcloicgnanjbcaaGreatDoorEvBuild3
import Derived.Test.YtcloicgnanjbcaaGreatDoorEvRise2
import Derived.Shelf.SlSortCmp.WholeK
import Derived.Shelf.SlSortCmp.NoneTotal
namespace Esp
open Go
set_option linter.unusedSimpArgs false
set_option linter.unusedVariables false
variable [Tabs]
def cmpI(i j:Int):Int:=if i<j then -1 else if i>j then 1 else 0
def F_sf(te:Nat)(τ:Ev.Ty)(g:Nat):FnT:=⟨2,⟨[(0, .own 2000000),(1, .fn g)], [], [(2000000, .arr te τ)], []⟩, [], [(2000000, .arr te τ)]⟩
section
variable{P:Program}{r:Go.Shelf.Ren}
open Go.Sort Go.Proofs
set_option linter.unusedSimpArgs false
set_option linter.unusedVariables false
end
end Esp

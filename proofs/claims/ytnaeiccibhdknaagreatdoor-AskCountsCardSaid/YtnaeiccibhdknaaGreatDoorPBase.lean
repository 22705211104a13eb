import Derived.Test.YtnaeiccibhdknaaGreatDoorShelf
import Derived.Lib.SlTrimSet
import Derived.Lib.IndexMore
set_option linter.unusedSimpArgs false
set_option linter.unusedVariables false
namespace Pure
open Esp Ev Go
abbrev zb0:Bt:=⟨#[]⟩
abbrev zb1:Bt:=⟨#[43]⟩
abbrev zb2:Bt:=⟨#[45]⟩
abbrev zb3:Bt:=⟨#[42]⟩
abbrev zb4:Bt:=⟨#[110,117,108,108]⟩
abbrev zb5:Bt:=⟨#[105,100]⟩
abbrev zb6:Bt:=⟨#[116,121,112,101]⟩
abbrev zb7:Bt:=⟨#[110,111,116]⟩
abbrev zb8:Bt:=⟨#[115,105,122,101]⟩
abbrev zb9:Bt:=⟨#[104,101,97,100]⟩
abbrev zb10:Bt:=⟨#[99,111,97,108,101,115,99,101]⟩
abbrev zb11:Bt:=⟨#[60,61]⟩
abbrev zb12:Bt:=⟨#[97,110,100]⟩
abbrev zb13:Bt:=⟨#[111,114]⟩
abbrev zb14:Bt:=⟨#[99,111,117,110,116]⟩
abbrev zb15:Bt:=⟨#[61]⟩
abbrev zb16:Bt:=⟨#[60]⟩
abbrev zb17:Bt:=⟨#[46]⟩
abbrev zb18:Bt:=⟨#[105,110]⟩
abbrev zb19:Bt:=⟨#[108,105,115,116]⟩
abbrev zb20:Bt:=⟨#[75]⟩
abbrev zb21:Bt:=⟨#[109,105,110]⟩
abbrev zb22:Bt:=⟨#[109,97,120]⟩
abbrev zb23:Bt:=⟨#[41]⟩
abbrev zb24:Bt:=⟨#[115,117,109]⟩
abbrev zb25:Bt:=⟨#[105,115]⟩
abbrev zb26:Bt:=⟨#[116,114,117,101]⟩
abbrev zb27:Bt:=⟨#[114,101,116,117,114,110]⟩
abbrev zb28:Bt:=⟨#[100,105,115,116,105,110,99,116]⟩
abbrev zb29:Bt:=⟨#[102,97,108,115,101]⟩
abbrev zb30:Bt:=⟨#[109,97,116,99,104,32,40,97,41,32,114,101,116,117,114,110,32,99,111,117,110,116,40,105,100,40,97,41,41,32,97,115,32,110]⟩
def p0c(s:Bt):Bool:=Lib.validD s.data.toList
def z0j:Bt×Unit->Option (Bool×Unit):=λ(s,_)=>bif Nat.ble s.size 9223372036854775807 then some (p0c s,())else none
end Pure

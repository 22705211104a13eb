/- Plain functions that compute what functions of the program compute (written by gen.py). -/
import Derived.Test.YtcdfapbfocdhjaaDoorEvLib
import Derived.Test.YtcdfapbfocdhjaaDoorPRange
namespace Pure
open Esp Ev Go
set_option linter.unusedSimpArgs false
set_option linter.unusedVariables false

noncomputable def espalierref_high_s0 {ρ : Type} (n : Nat) (rec : Int × ByteArray × Int × Int × Unit → Option ρ) (kx : ByteArray × Unit → Option ρ) (kr : Unit → Option ρ) : Int × ByteArray × Int × Int × Unit → Option ρ :=
  fun (v3, v4, v5, v6, _) =>
  (bif decide ((v6 : Int) < v5) then
  (str? ([IntKind.wrap .u8 (brem .u64 v3 256)] : List Int)).bind fun s7 =>
  (cat? s7 v4).bind fun s8 => rec (bquo .u64 v3 256, s8, v5, IntKind.wrap .i64 (v6 + 1), ())
  else kx (v4, ()))

noncomputable def espalierref_high (n : Nat) : Int × Int × Unit → Option (ByteArray × Unit) :=
  fun (a1, a2, _) =>
  iterN (fun rc10 => espalierref_high_s0 n rc10 (fun (v9, _) => some (v9, ())) (fun (_) => none)) (n) (a1, (⟨#[]⟩ : ByteArray), a2, 0, ())

end Pure

/- Plain functions that compute what functions of the program compute (written by gen.py). -/
import Derived.Test.YtffefjmpmgkfoaaGreatDoorEvLib
import Derived.Test.YtffefjmpmgkfoaaGreatDoorPRange
import Derived.Test.YtffefjmpmgkfoaaGreatDoorEvGrow
namespace Pure.Hi
open Esp Ev Go Pure
set_option linter.unusedSimpArgs false
set_option linter.unusedVariables false

noncomputable def q6z : ByteArray × Unit × (List Int) × Unit → Option (Int × Unit × (List Int) × Unit) :=
  fun (a1, o2, o3, _) =>
  (copyCheckN ((()), o3, ())).bind fun (o4, o5, _) =>
  ck (room (o5 ++ (bytesI a1)).length 1) (some ((a1.size : Int), (()), o5 ++ (bytesI a1), ()))

noncomputable def strings_Join_s1 {ρ : Type} (n : Nat) (rec : (List ByteArray) × ByteArray × Int × (List ByteArray) × Int × Int × Unit → Option ρ) (kx : (List ByteArray) × ByteArray × Int × Unit → Option ρ) (kr : Unit → Option ρ) : (List ByteArray) × ByteArray × Int × (List ByteArray) × Int × Int × Unit → Option ρ :=
  fun (v5, v6, v7, v8, v9, v10, _) =>
  (bif decide ((v10 : Int) < v9) then
  (ix v8 v10).bind fun x11 =>
  (bif decide (((x11.size : Int) : Int) > (IntKind.wrap .i64 (9223372036854775807 - v7))) then none
  else rec (v5, v6, IntKind.wrap .i64 (v7 + (x11.size : Int)), v8, v9, IntKind.wrap .i64 (v10 + 1), ()))
  else kx (v5, v6, v7, ()))

noncomputable def strings_Join_s3 {ρ : Type} (n : Nat) (rec : ByteArray × (List ByteArray) × Int × Int × Unit × (List Int) × Unit → Option ρ) (kx : Unit × (List Int) × Unit → Option ρ) (kr : Unit → Option ρ) : ByteArray × (List ByteArray) × Int × Int × Unit × (List Int) × Unit → Option ρ :=
  fun (v22, v23, v24, v25, o26, o27, _) =>
  (bif decide ((v25 : Int) < v24) then
  (ix v23 v25).bind fun x28 =>
  (q6z (v22, (()), o27, ())).bind fun (y29, o30, o31, _) =>
  (q6z (x28, (()), o31, ())).bind fun (y32, o33, o34, _) => rec (v22, v23, v24, IntKind.wrap .i64 (v25 + 1), (()), o34, ())
  else kx ((()), o27, ()))

noncomputable def F_strings_Join_s1 {ρ : Type} (n : Nat) (kr : Unit → Option ρ) : Int → ByteArray → ((List ByteArray) × ByteArray × Int × Unit) → (((List ByteArray) × ByteArray × Int × Unit) → Option ρ) → Option ρ :=
  fun v10 x11 (v5, v6, v7, _) rec =>
  (bif decide (((x11.size : Int) : Int) > (IntKind.wrap .i64 (9223372036854775807 - v7))) then none
  else rec (v5, v6, IntKind.wrap .i64 (v7 + (x11.size : Int)), ()))

theorem R_strings_Join_s1 {ρ : Type} (n : Nat) (kx : (List ByteArray) × ByteArray × Int × Unit → Option ρ) (kr : Unit → Option ρ) (l : List ByteArray) (fuel : Nat) (v5 : List ByteArray) (v6 : ByteArray) (v7 : Int) (hl : l.length ≤ 9223372036854775807) (hf : l.length < fuel) :
    iterN (fun rc => strings_Join_s1 n rc kx kr) fuel (v5, v6, v7, l, (l.length : Int), 0, ()) = foldK (F_strings_Join_s1 n kr) (fun (v5, v6, v7, _) => kx (v5, v6, v7, ())) 0 l (v5, v6, v7, ()) :=
  range_listM l (fun i (v5, v6, v7, _) => (v5, v6, v7, l, (l.length : Int), i, ())) _ _ _ (fun rec i s => rfl) hl fuel (v5, v6, v7, ()) hf

noncomputable def F_strings_Join_s3 {ρ : Type} (n : Nat) (kr : Unit → Option ρ) : Int → ByteArray → (ByteArray × Unit × (List Int) × Unit) → ((ByteArray × Unit × (List Int) × Unit) → Option ρ) → Option ρ :=
  fun v25 x28 (v22, o26, o27, _) rec =>
  (q6z (v22, (()), o27, ())).bind fun (y29, o30, o31, _) =>
  (q6z (x28, (()), o31, ())).bind fun (y32, o33, o34, _) => rec (v22, (()), o34, ())

theorem R_strings_Join_s3 {ρ : Type} (n : Nat) (kx : Unit × (List Int) × Unit → Option ρ) (kr : Unit → Option ρ) (l : List ByteArray) (fuel : Nat) (v22 : ByteArray) (o26 : Unit) (o27 : List Int) (hl : l.length ≤ 9223372036854775807) (hf : l.length < fuel) :
    iterN (fun rc => strings_Join_s3 n rc kx kr) fuel (v22, l, (l.length : Int), 0, o26, o27, ()) = foldK (F_strings_Join_s3 n kr) (fun (v22, o26, o27, _) => kx ((()), o27, ())) 0 l (v22, o26, o27, ()) :=
  range_listM l (fun i (v22, o26, o27, _) => (v22, l, (l.length : Int), i, o26, o27, ())) _ _ _ (fun rec i s => rfl) hl fuel (v22, o26, o27, ()) hf

noncomputable def strings_Join (n : Nat) : (List ByteArray) × ByteArray × Unit → Option (ByteArray × Unit) :=
  fun (a1, a2, _) =>
  (bif ((a1.length : Int) : Int) == 0 then some ((⟨#[]⟩ : ByteArray), ())
  else
  (bif ((a1.length : Int) : Int) == 1 then
  (ix a1 0).bind fun x3 => some (x3, ())
  else
  (bif decide (((a2.size : Int) : Int) > 0) then
  (nz? (IntKind.wrap .i64 ((a1.length : Int) - 1))).bind fun q4 =>
  (bif decide (((a2.size : Int) : Int) ≥ (bquo .i64 9223372036854775807 q4)) then none
  else
  iterN (fun rc39 => strings_Join_s1 n rc39 (fun (v12, v13, v14, _) =>
  (growN (v14, (()), ([] : List Int), ())).bind fun (o15, o16, _) =>
  (ix v12 0).bind fun x17 =>
  (q6z (x17, (()), o16, ())).bind fun (y18, o19, o20, _) =>
  (lsl v12 1 (v12.length : Int)).bind fun l21 =>
  iterN (fun rc38 => strings_Join_s3 n rc38 (fun (o35, o36, _) =>
  (stringN ((()), o36, ())).bind fun (y37, _) => some (y37, ())) (fun (_) => none)) (n) (v13, l21, (l21.length : Int), 0, (()), o20, ())) (fun (_) => none)) (n) (a1, a2, IntKind.wrap .i64 (0 + (IntKind.wrap .i64 ((a2.size : Int) * (IntKind.wrap .i64 ((a1.length : Int) - 1))))), a1, (a1.length : Int), 0, ()))
  else
  iterN (fun rc54 => strings_Join_s1 n rc54 (fun (v40, v41, v42, _) =>
  (growN (v42, (()), ([] : List Int), ())).bind fun (o43, o44, _) =>
  (ix v40 0).bind fun x45 =>
  (q6z (x45, (()), o44, ())).bind fun (y46, o47, o48, _) =>
  (lsl v40 1 (v40.length : Int)).bind fun l49 =>
  iterN (fun rc53 => strings_Join_s3 n rc53 (fun (o50, o51, _) =>
  (stringN ((()), o51, ())).bind fun (y52, _) => some (y52, ())) (fun (_) => none)) (n) (v41, l49, (l49.length : Int), 0, (()), o48, ())) (fun (_) => none)) (n) (a1, a2, 0, a1, (a1.length : Int), 0, ()))))

end Pure.Hi

/- Plain functions that compute what functions of the program compute (written by gen.py). -/
import Derived.Test.YtffefjmpmgkfoaaGreatDoorEvLib
import Derived.Test.YtffefjmpmgkfoaaGreatDoorPRange
import Derived.Test.YtffefjmpmgkfoaaGreatDoorEvGrow
import Derived.Test.YtffefjmpmgkfoaaGreatDoorEvSplit
import Derived.Test.YtffefjmpmgkfoaaGreatDoorPPrR
namespace Pure
open Esp Ev Go
set_option linter.unusedSimpArgs false
set_option linter.unusedVariables false

noncomputable def q25z_s1 {ρ : Type} (self_q25z : Ev.Val × Int × Unit → Option (Int × Unit)) (n : Nat) (rec : Int × (List Ev.Val) × Int × Int × (Ev.Val × Unit) × Unit → Option ρ) (kx : (Ev.Val × Unit) × Unit → Option ρ) (kr : Int × Unit → Option ρ) : Int × (List Ev.Val) × Int × Int × (Ev.Val × Unit) × Unit → Option ρ :=
  fun (v4, v5, v6, v7, o8, _) =>
  (bif decide ((v7 : Int) < v6) then
  (ix v5 v7).bind fun x9 =>
  (self_q25z ((Ev.Val.mk x9.kind x9.n x9.s x9.l), IntKind.wrap .i64 (v4 + 1), ())).bind fun (y10, _) =>
  (bif (y10 : Int) != 0 then kr (y10, ())
  else rec (v4, v5, v6, IntKind.wrap .i64 (v7 + 1), ((Ev.Val.mk o8.1.kind o8.1.n o8.1.s o8.1.l), ()), ()))
  else kx (((Ev.Val.mk o8.1.kind o8.1.n o8.1.s o8.1.l), ()), ()))

noncomputable def F_q25z_s1 {ρ : Type} (self_q25z : Ev.Val × Int × Unit → Option (Int × Unit)) (n : Nat) (kr : Int × Unit → Option ρ) : Int → Ev.Val → (Int × (Ev.Val × Unit) × Unit) → ((Int × (Ev.Val × Unit) × Unit) → Option ρ) → Option ρ :=
  fun v7 x9 (v4, o8, _) rec =>
  (self_q25z ((Ev.Val.mk x9.kind x9.n x9.s x9.l), IntKind.wrap .i64 (v4 + 1), ())).bind fun (y10, _) =>
  (bif (y10 : Int) != 0 then kr (y10, ())
  else rec (v4, ((Ev.Val.mk o8.1.kind o8.1.n o8.1.s o8.1.l), ()), ()))

theorem R_q25z_s1 {ρ : Type} (self_q25z : Ev.Val × Int × Unit → Option (Int × Unit)) (n : Nat) (kx : (Ev.Val × Unit) × Unit → Option ρ) (kr : Int × Unit → Option ρ) (l : List Ev.Val) (fuel : Nat) (v4 : Int) (o8 : Ev.Val × Unit) (hl : l.length ≤ 9223372036854775807) (hf : l.length < fuel) :
    iterN (fun rc => q25z_s1 self_q25z n rc kx kr) fuel (v4, l, (l.length : Int), 0, o8, ()) = foldK (F_q25z_s1 self_q25z n kr) (fun (v4, o8, _) => kx (((Ev.Val.mk o8.1.kind o8.1.n o8.1.s o8.1.l), ()), ())) 0 l (v4, o8, ()) :=
  range_listM l (fun i (v4, o8, _) => (v4, l, (l.length : Int), i, o8, ())) _ _ _ (fun rec i s => rfl) hl fuel (v4, o8, ()) hf

noncomputable def q25z_b (self_q25z : Ev.Val × Int × Unit → Option (Int × Unit)) (n : Nat) : Ev.Val × Int × Unit → Option (Int × Unit) :=
  fun (a1, a2, _) =>
  (bif (a1.kind : Int) == 0 then
  (bif !((((a1.n : Int) == 0) && (seq a1.s (⟨#[]⟩ : ByteArray))) && (((a1.l.length : Int) : Int) == 0)) then some (6, ())
  else some (0, ()))
  else
  (bif (a1.kind : Int) == 1 then
  (bif !(((((a1.n : Int) == 0) || ((a1.n : Int) == 1)) && (seq a1.s (⟨#[]⟩ : ByteArray))) && (((a1.l.length : Int) : Int) == 0)) then some (6, ())
  else some (0, ()))
  else
  (bif (a1.kind : Int) == 2 then
  (bif !((seq a1.s (⟨#[]⟩ : ByteArray)) && (((a1.l.length : Int) : Int) == 0)) then some (6, ())
  else some (0, ()))
  else
  (bif (a1.kind : Int) == 3 then
  (bif decide (((a1.s.size : Int) : Int) > 4000) then some (2, ())
  else
  (bif (a1.n : Int) == 0 then
  (validN (a1.s, ())).bind fun (y3, _) =>
  (bif !(y3 && (((a1.l.length : Int) : Int) == 0)) then some (6, ())
  else some (0, ()))
  else some (6, ())))
  else
  (bif (a1.kind : Int) == 4 then
  (bif (decide (((a1.l.length : Int) : Int) > 30)) || (decide ((a2 : Int) > 6)) then some (2, ())
  else
  iterN (fun rc13 => q25z_s1 self_q25z n rc13 (fun (o11, _) =>
  (bif !(((o11.1.n : Int) == 0) && (seq o11.1.s (⟨#[]⟩ : ByteArray))) then some (6, ())
  else some (0, ()))) (fun (v12, _) => some (v12, ()))) (n) (a2, a1.l, (a1.l.length : Int), 0, ((Ev.Val.mk a1.kind a1.n a1.s a1.l), ()), ()))
  else some (6, ()))))))

noncomputable def q25z : Nat → Ev.Val × Int × Unit → Option (Int × Unit)
  | 0, _ => none
  | n + 1, x => q25z_b (q25z n) n x

noncomputable def q22z (n : Nat) : Ev.Val × Unit → Option (Int × Unit) :=
  fun (a1, _) =>
  (q25z n ((Ev.Val.mk a1.kind a1.n a1.s a1.l), 1, ())).bind fun (y2, _) => some (y2, ())

noncomputable def q2z : ByteArray × Unit × (List Int) × Unit → Option (Int × Unit × (List Int) × Unit) :=
  fun (a1, o2, o3, _) =>
  (copyCheckN ((()), o3, ())).bind fun (o4, o5, _) =>
  ck (room (o5 ++ (bytesI a1)).length 1) (some ((a1.size : Int), (()), o5 ++ (bytesI a1), ()))

noncomputable def q3z : Bool × Unit → Option (ByteArray × Unit) :=
  fun (a1, _) =>
  (bif a1 then some ((⟨#[116, 114, 117, 101]⟩ : ByteArray), ())
  else some ((⟨#[102, 97, 108, 115, 101]⟩ : ByteArray), ()))

noncomputable def q15z : Bool × Unit → Option (ByteArray × Unit) :=
  fun (a1, _) =>
  (q3z (a1, ())).bind fun (y2, _) => some (y2, ())

noncomputable def q4z : Int × Unit × (List Int) × Unit → Option (Unit × (List Int) × Unit) :=
  fun (a1, o2, o3, _) =>
  (copyCheckN ((()), o3, ())).bind fun (o4, o5, _) =>
  ck (room (o5 ++ ([a1] : List Int)).length 1) (some ((()), o5 ++ ([a1] : List Int), ()))

noncomputable def q0z : Int × (List Int) × Unit → Option ((List Int) × Unit) :=
  fun (a1, o2, _) =>
  (bif decide ((IntKind.wrap .u32 (a1) : Int) ≤ 2047) then
  ck (room (o2 ++ ([bor .u8 192 (IntKind.wrap .u8 (bshr .i32 a1 6)), bor .u8 128 (band .u8 (IntKind.wrap .u8 (a1)) 63)] : List Int)).length 1) (some (o2 ++ ([bor .u8 192 (IntKind.wrap .u8 (bshr .i32 a1 6)), bor .u8 128 (band .u8 (IntKind.wrap .u8 (a1)) 63)] : List Int), ()))
  else
  (bif decide ((IntKind.wrap .u32 (a1) : Int) < 55296) then
  (bif decide ((IntKind.wrap .u32 (a1) : Int) < 55296) then
  ck (room (o2 ++ ([bor .u8 224 (IntKind.wrap .u8 (bshr .i32 a1 12)), bor .u8 128 (band .u8 (IntKind.wrap .u8 (bshr .i32 a1 6)) 63), bor .u8 128 (band .u8 (IntKind.wrap .u8 (a1)) 63)] : List Int)).length 1) (some (o2 ++ ([bor .u8 224 (IntKind.wrap .u8 (bshr .i32 a1 12)), bor .u8 128 (band .u8 (IntKind.wrap .u8 (bshr .i32 a1 6)) 63), bor .u8 128 (band .u8 (IntKind.wrap .u8 (a1)) 63)] : List Int), ()))
  else
  (bif (decide ((IntKind.wrap .u32 (a1) : Int) > 65535)) && (decide ((IntKind.wrap .u32 (a1) : Int) ≤ 1114111)) then
  ck (room (o2 ++ ([bor .u8 240 (IntKind.wrap .u8 (bshr .i32 a1 18)), bor .u8 128 (band .u8 (IntKind.wrap .u8 (bshr .i32 a1 12)) 63), bor .u8 128 (band .u8 (IntKind.wrap .u8 (bshr .i32 a1 6)) 63), bor .u8 128 (band .u8 (IntKind.wrap .u8 (a1)) 63)] : List Int)).length 1) (some (o2 ++ ([bor .u8 240 (IntKind.wrap .u8 (bshr .i32 a1 18)), bor .u8 128 (band .u8 (IntKind.wrap .u8 (bshr .i32 a1 12)) 63), bor .u8 128 (band .u8 (IntKind.wrap .u8 (bshr .i32 a1 6)) 63), bor .u8 128 (band .u8 (IntKind.wrap .u8 (a1)) 63)] : List Int), ()))
  else
  ck (room (o2 ++ ([239, 191, 189] : List Int)).length 1) (some (o2 ++ ([239, 191, 189] : List Int), ()))))
  else
  (bif (decide ((57343 : Int) < (IntKind.wrap .u32 (a1)))) && (decide ((IntKind.wrap .u32 (a1) : Int) ≤ 65535)) then
  ck (room (o2 ++ ([bor .u8 224 (IntKind.wrap .u8 (bshr .i32 a1 12)), bor .u8 128 (band .u8 (IntKind.wrap .u8 (bshr .i32 a1 6)) 63), bor .u8 128 (band .u8 (IntKind.wrap .u8 (a1)) 63)] : List Int)).length 1) (some (o2 ++ ([bor .u8 224 (IntKind.wrap .u8 (bshr .i32 a1 12)), bor .u8 128 (band .u8 (IntKind.wrap .u8 (bshr .i32 a1 6)) 63), bor .u8 128 (band .u8 (IntKind.wrap .u8 (a1)) 63)] : List Int), ()))
  else
  (bif (decide ((IntKind.wrap .u32 (a1) : Int) > 65535)) && (decide ((IntKind.wrap .u32 (a1) : Int) ≤ 1114111)) then
  ck (room (o2 ++ ([bor .u8 240 (IntKind.wrap .u8 (bshr .i32 a1 18)), bor .u8 128 (band .u8 (IntKind.wrap .u8 (bshr .i32 a1 12)) 63), bor .u8 128 (band .u8 (IntKind.wrap .u8 (bshr .i32 a1 6)) 63), bor .u8 128 (band .u8 (IntKind.wrap .u8 (a1)) 63)] : List Int)).length 1) (some (o2 ++ ([bor .u8 240 (IntKind.wrap .u8 (bshr .i32 a1 18)), bor .u8 128 (band .u8 (IntKind.wrap .u8 (bshr .i32 a1 12)) 63), bor .u8 128 (band .u8 (IntKind.wrap .u8 (bshr .i32 a1 6)) 63), bor .u8 128 (band .u8 (IntKind.wrap .u8 (a1)) 63)] : List Int), ()))
  else
  ck (room (o2 ++ ([239, 191, 189] : List Int)).length 1) (some (o2 ++ ([239, 191, 189] : List Int), ()))))))

noncomputable def q6z : Int × (List Int) × Unit → Option ((List Int) × Unit) :=
  fun (a1, o2, _) =>
  (bif decide ((IntKind.wrap .u32 (a1) : Int) ≤ 127) then
  ck (room (o2 ++ ([IntKind.wrap .u8 (a1)] : List Int)).length 1) (some (o2 ++ ([IntKind.wrap .u8 (a1)] : List Int), ()))
  else
  (q0z (a1, o2, ())).bind fun (o3, _) => some (o3, ()))

noncomputable def q5z : Int × Unit × (List Int) × Unit → Option (Int × Unit × (List Int) × Unit) :=
  fun (a1, o2, o3, _) =>
  (copyCheckN ((()), o3, ())).bind fun (o4, o5, _) =>
  (q6z (a1, o5, ())).bind fun (o6, _) => some (IntKind.wrap .i64 ((o6.length : Int) - (o5.length : Int)), (()), o6, ())

noncomputable def q27z_s1 {ρ : Type} (self_q27z : Ev.Val × Unit × (List Int) × Unit → Option (Unit × (List Int) × Unit)) (n : Nat) (rec : (ByteArray × Nat) × Unit × (List Int) × Unit → Option ρ) (kx : Unit × (List Int) × Unit → Option ρ) (kr : Unit → Option ρ) : (ByteArray × Nat) × Unit × (List Int) × Unit → Option ρ :=
  fun (o17, o18, o19, _) =>
  (bif Nat.blt o17.2 o17.1.size then
  (bif (((Utf8.decode o17.1 o17.2).1 : Int) : Int) == 39 then
  (bif (((Utf8.decode o17.1 o17.2).1 : Int) : Int) == 39 then
  (q4z (92, (()), o19, ())).bind fun (o20, o21, _) =>
  (q5z (((Utf8.decode o17.1 o17.2).1 : Int), (()), o21, ())).bind fun (y22, o23, o24, _) => rec ((o17.1, o17.2 + (Utf8.decode o17.1 o17.2).2), (()), o24, ())
  else
  (bif (((Utf8.decode o17.1 o17.2).1 : Int) : Int) == 10 then
  (q4z (92, (()), o19, ())).bind fun (o25, o26, _) =>
  (q5z (110, (()), o26, ())).bind fun (y27, o28, o29, _) => rec ((o17.1, o17.2 + (Utf8.decode o17.1 o17.2).2), (()), o29, ())
  else
  (q5z (((Utf8.decode o17.1 o17.2).1 : Int), (()), o19, ())).bind fun (y30, o31, o32, _) => rec ((o17.1, o17.2 + (Utf8.decode o17.1 o17.2).2), (()), o32, ())))
  else
  (bif (((Utf8.decode o17.1 o17.2).1 : Int) : Int) == 92 then
  (q4z (92, (()), o19, ())).bind fun (o33, o34, _) =>
  (q5z (((Utf8.decode o17.1 o17.2).1 : Int), (()), o34, ())).bind fun (y35, o36, o37, _) => rec ((o17.1, o17.2 + (Utf8.decode o17.1 o17.2).2), (()), o37, ())
  else
  (bif (((Utf8.decode o17.1 o17.2).1 : Int) : Int) == 10 then
  (q4z (92, (()), o19, ())).bind fun (o38, o39, _) =>
  (q5z (110, (()), o39, ())).bind fun (y40, o41, o42, _) => rec ((o17.1, o17.2 + (Utf8.decode o17.1 o17.2).2), (()), o42, ())
  else
  (q5z (((Utf8.decode o17.1 o17.2).1 : Int), (()), o19, ())).bind fun (y43, o44, o45, _) => rec ((o17.1, o17.2 + (Utf8.decode o17.1 o17.2).2), (()), o45, ()))))
  else kx ((()), o19, ()))

noncomputable def q27z_s4 {ρ : Type} (self_q27z : Ev.Val × Unit × (List Int) × Unit → Option (Unit × (List Int) × Unit)) (n : Nat) (rec : (List Ev.Val) × Int × Int × Unit × (List Int) × Unit → Option ρ) (kx : Unit × (List Int) × Unit → Option ρ) (kr : Unit → Option ρ) : (List Ev.Val) × Int × Int × Unit × (List Int) × Unit → Option ρ :=
  fun (v53, v54, v55, o56, o57, _) =>
  (bif decide ((v55 : Int) < v54) then
  (ix v53 v55).bind fun x58 =>
  (bif decide ((v55 : Int) > 0) then
  (q4z (44, (()), o57, ())).bind fun (o59, o60, _) =>
  (self_q27z ((Ev.Val.mk x58.kind x58.n x58.s x58.l), (()), o60, ())).bind fun (o61, o62, _) => rec (v53, v54, IntKind.wrap .i64 (v55 + 1), (()), o62, ())
  else
  (self_q27z ((Ev.Val.mk x58.kind x58.n x58.s x58.l), (()), o57, ())).bind fun (o63, o64, _) => rec (v53, v54, IntKind.wrap .i64 (v55 + 1), (()), o64, ()))
  else kx ((()), o57, ()))

noncomputable def F_q27z_s4 {ρ : Type} (self_q27z : Ev.Val × Unit × (List Int) × Unit → Option (Unit × (List Int) × Unit)) (n : Nat) (kr : Unit → Option ρ) : Int → Ev.Val → (Unit × (List Int) × Unit) → ((Unit × (List Int) × Unit) → Option ρ) → Option ρ :=
  fun v55 x58 (o56, o57, _) rec =>
  (bif decide ((v55 : Int) > 0) then
  (q4z (44, (()), o57, ())).bind fun (o59, o60, _) =>
  (self_q27z ((Ev.Val.mk x58.kind x58.n x58.s x58.l), (()), o60, ())).bind fun (o61, o62, _) => rec ((()), o62, ())
  else
  (self_q27z ((Ev.Val.mk x58.kind x58.n x58.s x58.l), (()), o57, ())).bind fun (o63, o64, _) => rec ((()), o64, ()))

theorem R_q27z_s4 {ρ : Type} (self_q27z : Ev.Val × Unit × (List Int) × Unit → Option (Unit × (List Int) × Unit)) (n : Nat) (kx : Unit × (List Int) × Unit → Option ρ) (kr : Unit → Option ρ) (l : List Ev.Val) (fuel : Nat) (o56 : Unit) (o57 : List Int) (hl : l.length ≤ 9223372036854775807) (hf : l.length < fuel) :
    iterN (fun rc => q27z_s4 self_q27z n rc kx kr) fuel (l, (l.length : Int), 0, o56, o57, ()) = foldK (F_q27z_s4 self_q27z n kr) (fun (o56, o57, _) => kx ((()), o57, ())) 0 l (o56, o57, ()) :=
  range_listM l (fun i (o56, o57, _) => (l, (l.length : Int), i, o56, o57, ())) _ _ _ (fun rec i s => rfl) hl fuel (o56, o57, ()) hf

noncomputable def q27z_b (self_q27z : Ev.Val × Unit × (List Int) × Unit → Option (Unit × (List Int) × Unit)) (n : Nat) : Ev.Val × Unit × (List Int) × Unit → Option (Unit × (List Int) × Unit) :=
  fun (a1, o2, o3, _) =>
  (bif (a1.kind : Int) == 0 then
  (q2z ((⟨#[110, 117, 108, 108]⟩ : ByteArray), (()), o3, ())).bind fun (y4, o5, o6, _) => some ((()), o6, ())
  else
  (bif (a1.kind : Int) == 1 then
  (q15z ((a1.n : Int) == 1, ())).bind fun (y7, _) =>
  (q2z (y7, (()), o3, ())).bind fun (y8, o9, o10, _) => some ((()), o10, ())
  else
  (bif (a1.kind : Int) == 2 then
  (itoaN (a1.n, ())).bind fun (y11, _) =>
  (q2z (y11, (()), o3, ())).bind fun (y12, o13, o14, _) => some ((()), o14, ())
  else
  (bif (a1.kind : Int) == 3 then
  (q4z (39, (()), o3, ())).bind fun (o15, o16, _) =>
  iterN (fun rc50 => q27z_s1 self_q27z n rc50 (fun (o46, o47, _) =>
  (q4z (39, (()), o47, ())).bind fun (o48, o49, _) => some ((()), o49, ())) (fun (_) => none)) (n) ((a1.s, 0), (()), o16, ())
  else
  (bif (a1.kind : Int) == 4 then
  (q4z (91, (()), o3, ())).bind fun (o51, o52, _) =>
  iterN (fun rc69 => q27z_s4 self_q27z n rc69 (fun (o65, o66, _) =>
  (q4z (93, (()), o66, ())).bind fun (o67, o68, _) => some ((()), o68, ())) (fun (_) => none)) (n) (a1.l, (a1.l.length : Int), 0, (()), o52, ())
  else some ((()), o3, ()))))))

noncomputable def q27z : Nat → Ev.Val × Unit × (List Int) × Unit → Option (Unit × (List Int) × Unit)
  | 0, _ => none
  | n + 1, x => q27z_b (q27z n) n x

noncomputable def q10z : Unit × (List Int) × Unit → Option (Int × Unit × (List Int) × Unit) :=
  fun (o1, o2, _) => some ((o2.length : Int), (()), o2, ())

noncomputable def q24z (n : Nat) : Ev.Val × Unit → Option (ByteArray × Int × Unit) :=
  fun (a1, _) =>
  (q22z n ((Ev.Val.mk a1.kind a1.n a1.s a1.l), ())).bind fun (y2, _) =>
  (bif (y2 : Int) != 0 then some ((⟨#[]⟩ : ByteArray), y2, ())
  else
  (q27z n ((Ev.Val.mk a1.kind a1.n a1.s a1.l), (()), ([] : List Int), ())).bind fun (o3, o4, _) =>
  (q10z ((()), o4, ())).bind fun (y5, o6, o7, _) =>
  (bif decide ((y5 : Int) > 4000) then some ((⟨#[]⟩ : ByteArray), 2, ())
  else
  (stringN ((()), o7, ())).bind fun (y8, _) => some (y8, 0, ())))

noncomputable def q8z_s1 {ρ : Type} (self_q8z : Ev.Val × Int × Unit → Option (Int × Unit)) (n : Nat) (rec : Int × Bool × Bool × (List Ev.Val) × Int × Int × Unit → Option ρ) (kx : Bool × Bool × Unit → Option ρ) (kr : Int × Unit → Option ρ) : Int × Bool × Bool × (List Ev.Val) × Int × Int × Unit → Option ρ :=
  fun (v3, v4, v5, v6, v7, v8, _) =>
  (bif decide ((v8 : Int) < v7) then
  (ix v6 v8).bind fun x9 =>
  (self_q8z ((Ev.Val.mk x9.kind x9.n x9.s x9.l), IntKind.wrap .i64 (v3 + 1), ())).bind fun (y10, _) =>
  (bif (y10 : Int) != 0 then kr (y10, ())
  else rec (v3, v4, v5, v6, v7, IntKind.wrap .i64 (v8 + 1), ()))
  else kx (v4, v5, ()))

noncomputable def F_q8z_s1 {ρ : Type} (self_q8z : Ev.Val × Int × Unit → Option (Int × Unit)) (n : Nat) (kr : Int × Unit → Option ρ) : Int → Ev.Val → (Int × Bool × Bool × Unit) → ((Int × Bool × Bool × Unit) → Option ρ) → Option ρ :=
  fun v8 x9 (v3, v4, v5, _) rec =>
  (self_q8z ((Ev.Val.mk x9.kind x9.n x9.s x9.l), IntKind.wrap .i64 (v3 + 1), ())).bind fun (y10, _) =>
  (bif (y10 : Int) != 0 then kr (y10, ())
  else rec (v3, v4, v5, ()))

theorem R_q8z_s1 {ρ : Type} (self_q8z : Ev.Val × Int × Unit → Option (Int × Unit)) (n : Nat) (kx : Bool × Bool × Unit → Option ρ) (kr : Int × Unit → Option ρ) (l : List Ev.Val) (fuel : Nat) (v3 : Int) (v4 : Bool) (v5 : Bool) (hl : l.length ≤ 9223372036854775807) (hf : l.length < fuel) :
    iterN (fun rc => q8z_s1 self_q8z n rc kx kr) fuel (v3, v4, v5, l, (l.length : Int), 0, ()) = foldK (F_q8z_s1 self_q8z n kr) (fun (v3, v4, v5, _) => kx (v4, v5, ())) 0 l (v3, v4, v5, ()) :=
  range_listM l (fun i (v3, v4, v5, _) => (v3, v4, v5, l, (l.length : Int), i, ())) _ _ _ (fun rec i s => rfl) hl fuel (v3, v4, v5, ()) hf

noncomputable def q8z_b (self_q8z : Ev.Val × Int × Unit → Option (Int × Unit)) (n : Nat) : Ev.Val × Int × Unit → Option (Int × Unit) :=
  fun (a1, a2, _) =>
  (bif (a1.kind : Int) == 4 then
  (bif (decide (((a1.l.length : Int) : Int) > 30)) || (decide ((a2 : Int) > 6)) then some (2, ())
  else
  iterN (fun rc14 => q8z_s1 self_q8z n rc14 (fun (v11, v12, _) =>
  (bif v11 && v12 then some (0, ())
  else some (6, ()))) (fun (v13, _) => some (v13, ()))) (n) (a2, (a1.n : Int) == 0, seq a1.s (⟨#[]⟩ : ByteArray), a1.l, (a1.l.length : Int), 0, ()))
  else
  (bif (a1.kind : Int) == 3 then
  (bif decide (((a1.s.size : Int) : Int) > 4000) then some (2, ())
  else
  (bif ((a1.n : Int) == 0) && (((a1.l.length : Int) : Int) == 0) then
  (validN (a1.s, ())).bind fun (y15, _) =>
  (bif y15 then some (0, ())
  else some (6, ()))
  else some (6, ())))
  else
  (bif (a1.kind : Int) == 0 then
  (bif (((a1.n : Int) == 0) && (seq a1.s (⟨#[]⟩ : ByteArray))) && (((a1.l.length : Int) : Int) == 0) then some (0, ())
  else some (6, ()))
  else
  (bif (a1.kind : Int) == 1 then
  (bif ((((a1.n : Int) == 0) || ((a1.n : Int) == 1)) && (seq a1.s (⟨#[]⟩ : ByteArray))) && (((a1.l.length : Int) : Int) == 0) then some (0, ())
  else some (6, ()))
  else
  (bif (a1.kind : Int) == 2 then
  (bif (seq a1.s (⟨#[]⟩ : ByteArray)) && (((a1.l.length : Int) : Int) == 0) then some (0, ())
  else some (6, ()))
  else some (6, ()))))))

noncomputable def q8z : Nat → Ev.Val × Int × Unit → Option (Int × Unit)
  | 0, _ => none
  | n + 1, x => q8z_b (q8z n) n x

noncomputable def q19z : Int × Unit → Option (Ev.Val × Unit) :=
  fun (a1, _) => some ((Ev.Val.mk 2 a1 (⟨#[]⟩ : ByteArray) ([] : List Ev.Val)), ())

noncomputable def q20z : ByteArray × Unit → Option (Ev.Val × Unit) :=
  fun (a1, _) => some ((Ev.Val.mk 3 0 a1 ([] : List Ev.Val)), ())

noncomputable def q18z : (List Ev.Val) × Unit → Option (Ev.Val × Unit) :=
  fun (a1, _) => some ((Ev.Val.mk 4 0 (⟨#[]⟩ : ByteArray) a1), ())

noncomputable def q1z : ByteArray × ByteArray × Unit → Option (Bool × Unit) :=
  fun (a1, a2, _) =>
  (bif decide (((a1.size : Int) : Int) ≥ (a2.size : Int)) then
  (ssl a1 0 (a2.size : Int)).bind fun s3 => some (seq s3 a2, ())
  else some (false, ()))

noncomputable def q17z : ByteArray × ByteArray × Unit → Option (Bool × Unit) :=
  fun (a1, a2, _) =>
  (q1z (a1, a2, ())).bind fun (y3, _) => some (y3, ())

noncomputable def q16z : ByteArray × (ByteArray × Int × Unit) × Unit → Option (Bool × (ByteArray × Int × Unit) × Unit) :=
  fun (a1, o2, _) =>
  (ssl o2.1 o2.2.1 (o2.1.size : Int)).bind fun s4 =>
  (q17z (s4, a1, ())).bind fun (y5, _) =>
  (bif !y5 then some (false, (o2.1, o2.2.1, ()), ())
  else some (true, (o2.1, IntKind.wrap .i64 (o2.2.1 + (a1.size : Int)), ()), ()))

noncomputable def q26z : Bool × Unit → Option (Ev.Val × Unit) :=
  fun (a1, _) =>
  (bif a1 then some ((Ev.Val.mk 1 1 (⟨#[]⟩ : ByteArray) ([] : List Ev.Val)), ())
  else some ((Ev.Val.mk 1 0 (⟨#[]⟩ : ByteArray) ([] : List Ev.Val)), ()))

noncomputable def q14z_s0 {ρ : Type} (n : Nat) (rec : Unit × (List Int) × (ByteArray × Int × Unit) × Unit → Option ρ) (kx : Unit → Option ρ) (kr : ByteArray × (ByteArray × Int × Unit) × Unit → Option ρ) : Unit × (List Int) × (ByteArray × Int × Unit) × Unit → Option ρ :=
  fun (o2, o3, o4, _) =>
  (q16z ((⟨#[39]⟩ : ByteArray), (o4.1, o4.2.1, ()), ())).bind fun (y5, o6, _) =>
  (bif y5 then
  (stringN ((()), o3, ())).bind fun (y7, _) => kr (y7, (o6.1, o6.2.1, ()), ())
  else
  (q16z ((⟨#[92, 110]⟩ : ByteArray), (o6.1, o6.2.1, ()), ())).bind fun (y8, o9, _) =>
  (bif y8 then
  (q4z (10, (()), o3, ())).bind fun (o10, o11, _) => rec ((()), o11, (o9.1, o9.2.1, ()), ())
  else
  (q16z ((⟨#[92, 39]⟩ : ByteArray), (o9.1, o9.2.1, ()), ())).bind fun (y12, o13, _) =>
  (bif y12 then
  (q4z (39, (()), o3, ())).bind fun (o14, o15, _) => rec ((()), o15, (o13.1, o13.2.1, ()), ())
  else
  (q16z ((⟨#[92, 92]⟩ : ByteArray), (o13.1, o13.2.1, ()), ())).bind fun (y16, o17, _) =>
  (bif y16 then
  (q4z (92, (()), o3, ())).bind fun (o18, o19, _) => rec ((()), o19, (o17.1, o17.2.1, ()), ())
  else
  (ssl o17.1 o17.2.1 (o17.1.size : Int)).bind fun s21 =>
  (decodeN (s21, ())).bind fun (y22, y23, _) =>
  (bif ((((y23 : Int) == 0) || (((y22 : Int) == 65533) && ((y23 : Int) == 1))) || ((y22 : Int) == 92)) || ((y22 : Int) == 10) then none
  else
  (q5z (y22, (()), o3, ())).bind fun (y24, o25, o26, _) => rec ((()), o26, (o17.1, IntKind.wrap .i64 (o17.2.1 + y23), ()), ()))))))

noncomputable def q14z (n : Nat) : (ByteArray × Int × Unit) × Unit → Option (ByteArray × (ByteArray × Int × Unit) × Unit) :=
  fun (o1, _) =>
  iterN (fun rc29 => q14z_s0 n rc29 (fun (_) => none) (fun (v27, o28, _) => some (v27, (o28.1, o28.2.1, ()), ()))) (n) ((()), ([] : List Int), (o1.1, o1.2.1, ()), ())

noncomputable def q12z_s1 {ρ : Type} (self_q12z : Int × (ByteArray × Int × Unit) × Unit → Option (Ev.Val × (ByteArray × Int × Unit) × Unit)) (n : Nat) (rec : Int × (Ev.Val × Unit) × (Int × Int × ByteArray × Unit) × (List Ev.Val) × (ByteArray × Int × Unit) × Unit → Option ρ) (kx : Unit → Option ρ) (kr : (Int × Int × ByteArray × Unit) × (List Ev.Val) × (ByteArray × Int × Unit) × Unit → Option ρ) : Int × (Ev.Val × Unit) × (Int × Int × ByteArray × Unit) × (List Ev.Val) × (ByteArray × Int × Unit) × Unit → Option ρ :=
  fun (v19, o20, o21, o22, o23, _) =>
  (self_q12z (IntKind.wrap .i64 (v19 + 1), (o23.1, o23.2.1, ()), ())).bind fun (y25, o26, _) =>
  ck (room (o22 ++ ([(Ev.Val.mk y25.kind y25.n y25.s y25.l)] : List Ev.Val)).length 56) (
  (q16z ((⟨#[93]⟩ : ByteArray), (o26.1, o26.2.1, ()), ())).bind fun (y27, o28, _) =>
  (bif y27 then kr ((o21.1, o21.2.1, o21.2.2.1, ()), o22 ++ ([(Ev.Val.mk y25.kind y25.n y25.s y25.l)] : List Ev.Val), (o28.1, o28.2.1, ()), ())
  else
  (q16z ((⟨#[44]⟩ : ByteArray), (o28.1, o28.2.1, ()), ())).bind fun (y29, o30, _) =>
  (bif !y29 then none
  else rec (v19, ((Ev.Val.mk o20.1.kind o20.1.n o20.1.s o20.1.l), ()), (o21.1, o21.2.1, o21.2.2.1, ()), o22 ++ ([(Ev.Val.mk y25.kind y25.n y25.s y25.l)] : List Ev.Val), (o30.1, o30.2.1, ()), ()))))

noncomputable def q12z_s3 {ρ : Type} (self_q12z : Int × (ByteArray × Int × Unit) × Unit → Option (Ev.Val × (ByteArray × Int × Unit) × Unit)) (n : Nat) (rec : Int × (Ev.Val × Unit) × (ByteArray × Int × Unit) × Unit → Option ρ) (kx : Int × (Ev.Val × Unit) × (ByteArray × Int × Unit) × Unit → Option ρ) (kr : Unit → Option ρ) : Int × (Ev.Val × Unit) × (ByteArray × Int × Unit) × Unit → Option ρ :=
  fun (v37, o38, o39, _) =>
  (bif decide ((o39.2.1 : Int) < (o39.1.size : Int)) then
  (sat o39.1 o39.2.1).bind fun c42 =>
  (bif decide ((c42 : Int) ≥ 48) then
  (sat o39.1 o39.2.1).bind fun c43 =>
  (bif decide ((c43 : Int) ≤ 57) then rec (v37, ((Ev.Val.mk o38.1.kind o38.1.n o38.1.s o38.1.l), ()), (o39.1, IntKind.wrap .i64 (o39.2.1 + 1), ()), ())
  else kx (v37, ((Ev.Val.mk o38.1.kind o38.1.n o38.1.s o38.1.l), ()), (o39.1, o39.2.1, ()), ()))
  else kx (v37, ((Ev.Val.mk o38.1.kind o38.1.n o38.1.s o38.1.l), ()), (o39.1, o39.2.1, ()), ()))
  else kx (v37, ((Ev.Val.mk o38.1.kind o38.1.n o38.1.s o38.1.l), ()), (o39.1, o39.2.1, ()), ()))

noncomputable def q12z_b (self_q12z : Int × (ByteArray × Int × Unit) × Unit → Option (Ev.Val × (ByteArray × Int × Unit) × Unit)) (n : Nat) : Int × (ByteArray × Int × Unit) × Unit → Option (Ev.Val × (ByteArray × Int × Unit) × Unit) :=
  fun (a1, o2, _) =>
  (q16z ((⟨#[110, 117, 108, 108]⟩ : ByteArray), (o2.1, o2.2.1, ()), ())).bind fun (y3, o4, _) =>
  (bif y3 then some ((Ev.Val.mk 0 0 (⟨#[]⟩ : ByteArray) ([] : List Ev.Val)), (o4.1, o4.2.1, ()), ())
  else
  (q16z ((⟨#[116, 114, 117, 101]⟩ : ByteArray), (o4.1, o4.2.1, ()), ())).bind fun (y5, o6, _) =>
  (bif y5 then
  (q26z (true, ())).bind fun (y7, _) => some ((Ev.Val.mk y7.kind y7.n y7.s y7.l), (o6.1, o6.2.1, ()), ())
  else
  (q16z ((⟨#[102, 97, 108, 115, 101]⟩ : ByteArray), (o6.1, o6.2.1, ()), ())).bind fun (y8, o9, _) =>
  (bif y8 then
  (q26z (false, ())).bind fun (y10, _) => some ((Ev.Val.mk y10.kind y10.n y10.s y10.l), (o9.1, o9.2.1, ()), ())
  else
  (q16z ((⟨#[39]⟩ : ByteArray), (o9.1, o9.2.1, ()), ())).bind fun (y11, o12, _) =>
  (bif y11 then
  (q14z n ((o12.1, o12.2.1, ()), ())).bind fun (y13, o14, _) => some ((Ev.Val.mk 3 0 y13 ([] : List Ev.Val)), (o14.1, o14.2.1, ()), ())
  else
  (q16z ((⟨#[91]⟩ : ByteArray), (o12.1, o12.2.1, ()), ())).bind fun (y15, o16, _) =>
  (bif y15 then
  (bif decide ((a1 : Int) > 40) then none
  else
  (q16z ((⟨#[93]⟩ : ByteArray), (o16.1, o16.2.1, ()), ())).bind fun (y17, o18, _) =>
  (bif y17 then some ((Ev.Val.mk 4 0 (⟨#[]⟩ : ByteArray) ([] : List Ev.Val)), (o18.1, o18.2.1, ()), ())
  else
  iterN (fun rc34 => q12z_s1 self_q12z n rc34 (fun (_) => none) (fun (o31, o32, o33, _) => some ((Ev.Val.mk o31.1 o31.2.1 o31.2.2.1 o32), (o33.1, o33.2.1, ()), ()))) (n) (a1, ((Ev.Val.mk 0 0 (⟨#[]⟩ : ByteArray) ([] : List Ev.Val)), ()), (4, 0, (⟨#[]⟩ : ByteArray), ()), ([] : List Ev.Val), (o18.1, o18.2.1, ()), ())))
  else
  (q16z ((⟨#[45]⟩ : ByteArray), (o16.1, o16.2.1, ()), ())).bind fun (y35, o36, _) =>
  iterN (fun rc53 => q12z_s3 self_q12z n rc53 (fun (v44, o45, o46, _) =>
  (ssl o46.1 v44 o46.2.1).bind fun s48 =>
  (atoiN (s48, ())).bind fun (y49, _) =>
  (itoaN (y49, ())).bind fun (y51, _) =>
  (ssl o46.1 v44 o46.2.1).bind fun s52 =>
  (bif !(seq y51 s52) then none
  else some ((Ev.Val.mk 2 y49 (⟨#[]⟩ : ByteArray) ([] : List Ev.Val)), (o46.1, o46.2.1, ()), ()))) (fun (_) => none)) (n) (o2.2.1, ((Ev.Val.mk 0 0 (⟨#[]⟩ : ByteArray) ([] : List Ev.Val)), ()), (o36.1, o36.2.1, ()), ()))))))

noncomputable def q12z : Nat → Int × (ByteArray × Int × Unit) × Unit → Option (Ev.Val × (ByteArray × Int × Unit) × Unit)
  | 0, _ => none
  | n + 1, x => q12z_b (q12z n) n x

noncomputable def q23z (n : Nat) : ByteArray × Unit → Option (Ev.Val × Int × Int × Unit) :=
  fun (a1, _) =>
  (bif decide (((a1.size : Int) : Int) > 4000) then some ((Ev.Val.mk 0 0 (⟨#[]⟩ : ByteArray) ([] : List Ev.Val)), 0, 2, ())
  else
  (q12z n (1, (a1, 0, ()), ())).bind fun (y2, o3, _) =>
  (bif decide ((o3.2.1 : Int) < (a1.size : Int)) then none
  else
  (q22z n ((Ev.Val.mk y2.kind y2.n y2.s y2.l), ())).bind fun (y4, _) =>
  (bif (y4 : Int) != 0 then some ((Ev.Val.mk 0 0 (⟨#[]⟩ : ByteArray) ([] : List Ev.Val)), 0, y4, ())
  else some ((Ev.Val.mk y2.kind y2.n y2.s y2.l), 0, 0, ()))))

noncomputable def q21z : (List Int) × (List Int) × Unit → Option (Int × Unit) :=
  fun (a1, a2, _) =>
  (cmpN (a1, a2, ())).bind fun (y3, _) => some (y3, ())

noncomputable def q11z_s1 {ρ : Type} (self_q11z : Ev.Val × Ev.Val × Unit → Option (Int × Unit)) (n : Nat) (rec : Int × (Ev.Val × Unit) × (Ev.Val × Unit) × Unit → Option ρ) (kx : (Ev.Val × Unit) × (Ev.Val × Unit) × Unit → Option ρ) (kr : Int × Unit → Option ρ) : Int × (Ev.Val × Unit) × (Ev.Val × Unit) × Unit → Option ρ :=
  fun (v4, o5, o6, _) =>
  (bif (decide ((v4 : Int) < (o5.1.l.length : Int))) && (decide ((v4 : Int) < (o6.1.l.length : Int))) then
  (ix o5.1.l v4).bind fun x9 =>
  (ix o6.1.l v4).bind fun x10 =>
  (self_q11z ((Ev.Val.mk x9.kind x9.n x9.s x9.l), (Ev.Val.mk x10.kind x10.n x10.s x10.l), ())).bind fun (y11, _) =>
  (bif (y11 : Int) != 0 then kr (y11, ())
  else rec (IntKind.wrap .i64 (v4 + 1), ((Ev.Val.mk o5.1.kind o5.1.n o5.1.s o5.1.l), ()), ((Ev.Val.mk o6.1.kind o6.1.n o6.1.s o6.1.l), ()), ()))
  else kx (((Ev.Val.mk o5.1.kind o5.1.n o5.1.s o5.1.l), ()), ((Ev.Val.mk o6.1.kind o6.1.n o6.1.s o6.1.l), ()), ()))

noncomputable def q11z_b (self_q11z : Ev.Val × Ev.Val × Unit → Option (Int × Unit)) (n : Nat) : Ev.Val × Ev.Val × Unit → Option (Int × Unit) :=
  fun (a1, a2, _) =>
  (bif decide ((a1.kind : Int) < a2.kind) then some ((-1), ())
  else
  (bif decide ((a1.kind : Int) > a2.kind) then some (1, ())
  else
  (bif decide ((a1.n : Int) < a2.n) then some ((-1), ())
  else
  (bif decide ((a1.n : Int) > a2.n) then some (1, ())
  else
  (bif !(seq a1.s a2.s) then
  (q21z (bytesI a1.s, bytesI a2.s, ())).bind fun (y3, _) => some (y3, ())
  else
  iterN (fun rc15 => q11z_s1 self_q11z n rc15 (fun (o12, o13, _) =>
  (bif decide (((o12.1.l.length : Int) : Int) < (o13.1.l.length : Int)) then some ((-1), ())
  else
  (bif decide (((o12.1.l.length : Int) : Int) > (o13.1.l.length : Int)) then some (1, ())
  else some (0, ())))) (fun (v14, _) => some (v14, ()))) (n) (0, ((Ev.Val.mk a1.kind a1.n a1.s a1.l), ()), ((Ev.Val.mk a2.kind a2.n a2.s a2.l), ()), ()))))))

noncomputable def q11z : Nat → Ev.Val × Ev.Val × Unit → Option (Int × Unit)
  | 0, _ => none
  | n + 1, x => q11z_b (q11z n) n x

noncomputable def q9z (n : Nat) : Ev.Val × Ev.Val × Unit → Option (Bool × Unit) :=
  fun (a1, a2, _) =>
  (q11z n ((Ev.Val.mk a1.kind a1.n a1.s a1.l), (Ev.Val.mk a2.kind a2.n a2.s a2.l), ())).bind fun (y3, _) => some ((y3 : Int) == 0, ())

noncomputable def q13z (n : Nat) : Unit → Option (Bool × Unit) :=
  fun (_) =>
  (q19z ((-7), ())).bind fun (y1, _) =>
  (q20z ((⟨#[105, 116, 39, 115]⟩ : ByteArray), ())).bind fun (y2, _) =>
  (q18z (([(Ev.Val.mk y1.kind y1.n y1.s y1.l), (Ev.Val.mk y2.kind y2.n y2.s y2.l), (Ev.Val.mk 0 0 (⟨#[]⟩ : ByteArray) ([] : List Ev.Val))] : List Ev.Val), ())).bind fun (y3, _) =>
  (q24z n ((Ev.Val.mk y3.kind y3.n y3.s y3.l), ())).bind fun (y4, y5, _) =>
  (q23z n ((⟨#[91, 45, 55, 44, 39, 105, 116, 92, 39, 115, 39, 44, 110, 117, 108, 108, 93]⟩ : ByteArray), ())).bind fun (y6, y7, y8, _) =>
  (bif ((((y5 : Int) == 0) && ((y8 : Int) == 0)) && ((y7 : Int) == 0)) && (seq y4 (⟨#[91, 45, 55, 44, 39, 105, 116, 92, 39, 115, 39, 44, 110, 117, 108, 108, 93]⟩ : ByteArray)) then
  (q19z ((-7), ())).bind fun (y9, _) =>
  (q20z ((⟨#[105, 116, 39, 115]⟩ : ByteArray), ())).bind fun (y10, _) =>
  (q18z (([(Ev.Val.mk y9.kind y9.n y9.s y9.l), (Ev.Val.mk y10.kind y10.n y10.s y10.l), (Ev.Val.mk 0 0 (⟨#[]⟩ : ByteArray) ([] : List Ev.Val))] : List Ev.Val), ())).bind fun (y11, _) =>
  (q9z n ((Ev.Val.mk y6.kind y6.n y6.s y6.l), (Ev.Val.mk y11.kind y11.n y11.s y11.l), ())).bind fun (y12, _) => some (y12, ())
  else some (false, ()))

noncomputable def q7z (n : Nat) : Ev.Val × Unit → Option (Bool × Unit) :=
  fun (a1, _) =>
  (q24z n ((Ev.Val.mk a1.kind a1.n a1.s a1.l), ())).bind fun (y2, y3, _) =>
  (q8z n ((Ev.Val.mk a1.kind a1.n a1.s a1.l), 1, ())).bind fun (y4, _) =>
  (q13z n (())).bind fun (y5, _) =>
  (bif (!y5) || ((y4 : Int) != 0) then
  (q13z n (())).bind fun (y6, _) => some ((y6 && ((y3 : Int) == y4)) && (seq y2 (⟨#[]⟩ : ByteArray)), ())
  else
  (printOfN ((Ev.Val.mk a1.kind a1.n a1.s a1.l), ())).bind fun (y7, _) =>
  (bif decide (((y7.size : Int) : Int) > 4000) then some (((y3 : Int) == 2) && (seq y2 (⟨#[]⟩ : ByteArray)), ())
  else some (((y3 : Int) == 0) && (seq y2 y7), ())))

end Pure

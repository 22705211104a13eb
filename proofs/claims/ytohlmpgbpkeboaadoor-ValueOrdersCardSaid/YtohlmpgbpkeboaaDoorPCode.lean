/- Plain functions that compute what functions of the program compute (written by gen.py). -/
import Derived.Test.YtohlmpgbpkeboaaDoorEvLib
import Derived.Test.YtohlmpgbpkeboaaDoorPRange
import Derived.Test.YtohlmpgbpkeboaaDoorEvBuild2
import Derived.Test.YtohlmpgbpkeboaaDoorEvBuild3
namespace Pure
open Esp Ev Go
set_option linter.unusedSimpArgs false
set_option linter.unusedVariables false

/-- (*strings.Builder).WriteString -/
noncomputable def pstrings_Builder_WriteString : ByteArray × Unit × (List Int) × Unit → Option (Int × Unit × (List Int) × Unit) :=
  fun (a1, o2, o3, _) => 
  (copyCheckN ((()), o3, ())).bind fun (o4, o5, _) => 
  ck (room (o5 ++ (bytesI a1)).length 1) (some ((a1.size : Int), (()), o5 ++ (bytesI a1), ()))

/-- (*strings.Builder).WriteByte -/
noncomputable def pstrings_Builder_WriteByte : Int × Unit × (List Int) × Unit → Option (Unit × (List Int) × Unit) :=
  fun (a1, o2, o3, _) => 
  (copyCheckN ((()), o3, ())).bind fun (o4, o5, _) => 
  ck (room (o5 ++ ([a1] : List Int)).length 1) (some ((()), o5 ++ ([a1] : List Int), ()))

/-- (*strings.Builder).Len -/
noncomputable def pstrings_Builder_Len : Unit × (List Int) × Unit → Option (Int × Unit × (List Int) × Unit) :=
  fun (o1, o2, _) => some ((o2.length : Int), (()), o2, ())

/-- unicode.utf8.appendRuneNonASCII -/
noncomputable def unicode_utf8_appendRuneNonASCII : Int × (List Int) × Unit → Option ((List Int) × Unit) :=
  fun (a1, o2, _) => 
  (bif decide ((IntKind.wrap .u32 (a1) : Int) ≤ 2047) then 
  ck (room (o2 ++ ([bor .u8 192 (IntKind.wrap .u8 (bshr .i32 a1 6)), bor .u8 128 (band .u8 (IntKind.wrap .u8 (a1)) 63)] : List Int)).length 1) (some (o2 ++ ([bor .u8 192 (IntKind.wrap .u8 (bshr .i32 a1 6)), bor .u8 128 (band .u8 (IntKind.wrap .u8 (a1)) 63)] : List Int), ()))
  else 
  (bif decide ((IntKind.wrap .u32 (a1) : Int) < 55296) then 
  (bif decide ((IntKind.wrap .u32 (a1) : Int) < 55296) then 
  ck (room (o2 ++ ([bor .u8 224 (IntKind.wrap .u8 (bshr .i32 a1 12)), bor .u8 128 (band .u8 (IntKind.wrap .u8 (bshr .i32 a1 6)) 63), bor .u8 128 (band .u8 (IntKind.wrap .u8 (a1)) 63)] : List Int)).length 1) (some (o2 ++ ([bor .u8 224 (IntKind.wrap .u8 (bshr .i32 a1 12)), bor .u8 128 (band .u8 (IntKind.wrap .u8 (bshr .i32 a1 6)) 63), bor .u8 128 (band .u8 (IntKind.wrap .u8 (a1)) 63)] : List Int), ()))
  else 
  (bif (decide ((IntKind.wrap .u32 (a1) : Int) > 65535)) && (decide ((IntKind.wrap .u32 (a1) : Int) ≤ 1114111)) then 
  ck (room (o2 ++ ([bor .u8 240 (IntKind.wrap .u8 (bshr .i32 a1 18)), bor .u8 128 (band .u8 (IntKind.wrap .u8 (bshr .i32 a1 12)) 63), bor .u8 128 (band .u8 (IntKind.wrap .u8 (bshr .i32 a1 6)) 63), bor .u8 128 (band .u8 (IntKind.wrap .u8 (a1)) 63)] : List Int)).length 1) (some (o2 ++ ([bor .u8 240 (IntKind.wrap .u8 (bshr .i32 a1 18)), bor .u8 128 (band .u8 (IntKind.wrap .u8 (bshr .i32 a1 12)) 63), bor .u8 128 (band .u8 (IntKind.wrap .u8 (bshr .i32 a1 6)) 63), bor .u8 128 (band .u8 (IntKind.wrap .u8 (a1)) 63)] : List Int), ()))
  else 
  ck (room (o2 ++ ([239, 191, 189] : List Int)).length 1) (some (o2 ++ ([239, 191, 189] : List Int), ()))))
  else 
  (bif (decide ((57343 : Int) < (IntKind.wrap .u32 (a1)))) && (decide ((IntKind.wrap .u32 (a1) : Int) ≤ 65535)) then 
  ck (room (o2 ++ ([bor .u8 224 (IntKind.wrap .u8 (bshr .i32 a1 12)), bor .u8 128 (band .u8 (IntKind.wrap .u8 (bshr .i32 a1 6)) 63), bor .u8 128 (band .u8 (IntKind.wrap .u8 (a1)) 63)] : List Int)).length 1) (some (o2 ++ ([bor .u8 224 (IntKind.wrap .u8 (bshr .i32 a1 12)), bor .u8 128 (band .u8 (IntKind.wrap .u8 (bshr .i32 a1 6)) 63), bor .u8 128 (band .u8 (IntKind.wrap .u8 (a1)) 63)] : List Int), ()))
  else 
  (bif (decide ((IntKind.wrap .u32 (a1) : Int) > 65535)) && (decide ((IntKind.wrap .u32 (a1) : Int) ≤ 1114111)) then 
  ck (room (o2 ++ ([bor .u8 240 (IntKind.wrap .u8 (bshr .i32 a1 18)), bor .u8 128 (band .u8 (IntKind.wrap .u8 (bshr .i32 a1 12)) 63), bor .u8 128 (band .u8 (IntKind.wrap .u8 (bshr .i32 a1 6)) 63), bor .u8 128 (band .u8 (IntKind.wrap .u8 (a1)) 63)] : List Int)).length 1) (some (o2 ++ ([bor .u8 240 (IntKind.wrap .u8 (bshr .i32 a1 18)), bor .u8 128 (band .u8 (IntKind.wrap .u8 (bshr .i32 a1 12)) 63), bor .u8 128 (band .u8 (IntKind.wrap .u8 (bshr .i32 a1 6)) 63), bor .u8 128 (band .u8 (IntKind.wrap .u8 (a1)) 63)] : List Int), ()))
  else 
  ck (room (o2 ++ ([239, 191, 189] : List Int)).length 1) (some (o2 ++ ([239, 191, 189] : List Int), ()))))))

/-- unicode.utf8.AppendRune -/
noncomputable def unicode_utf8_AppendRune : Int × (List Int) × Unit → Option ((List Int) × Unit) :=
  fun (a1, o2, _) => 
  (bif decide ((IntKind.wrap .u32 (a1) : Int) ≤ 127) then 
  ck (room (o2 ++ ([IntKind.wrap .u8 (a1)] : List Int)).length 1) (some (o2 ++ ([IntKind.wrap .u8 (a1)] : List Int), ()))
  else 
  (unicode_utf8_appendRuneNonASCII (a1, o2, ())).bind fun (o3, _) => some (o3, ()))

/-- (*strings.Builder).WriteRune -/
noncomputable def pstrings_Builder_WriteRune : Int × Unit × (List Int) × Unit → Option (Int × Unit × (List Int) × Unit) :=
  fun (a1, o2, o3, _) => 
  (copyCheckN ((()), o3, ())).bind fun (o4, o5, _) => 
  (unicode_utf8_AppendRune (a1, o5, ())).bind fun (o6, _) => some (IntKind.wrap .i64 ((o6.length : Int) - (o5.length : Int)), (()), o6, ())

/-- internal.strconv.FormatBool -/
noncomputable def internal_strconv_FormatBool : Bool × Unit → Option (ByteArray × Unit) :=
  fun (a1, _) => 
  (bif a1 then some ((⟨#[116, 114, 117, 101]⟩ : ByteArray), ())
  else some ((⟨#[102, 97, 108, 115, 101]⟩ : ByteArray), ()))

/-- strconv.FormatBool -/
noncomputable def strconv_FormatBool : Bool × Unit → Option (ByteArray × Unit) :=
  fun (a1, _) => 
  (internal_strconv_FormatBool (a1, ())).bind fun (y2, _) => some (y2, ())

/-- a round of a loop of value.tell -/
noncomputable def value_tell_s1 {ρ : Type} (self_value_tell : Ev.Val × Unit × (List Int) × Unit → Option (Unit × (List Int) × Unit)) (n : Nat) (rec : (ByteArray × Nat) × Unit × (List Int) × Unit → Option ρ) (kx : Unit × (List Int) × Unit → Option ρ) (kr : Unit → Option ρ) : (ByteArray × Nat) × Unit × (List Int) × Unit → Option ρ :=
  fun (o17, o18, o19, _) => 
  (bif Nat.blt o17.2 o17.1.size then 
  (bif (((Utf8.decode o17.1 o17.2).1 : Int) : Int) == 39 then 
  (bif (((Utf8.decode o17.1 o17.2).1 : Int) : Int) == 39 then 
  (pstrings_Builder_WriteByte (92, (()), o19, ())).bind fun (o20, o21, _) => 
  (pstrings_Builder_WriteRune (((Utf8.decode o17.1 o17.2).1 : Int), (()), o21, ())).bind fun (y22, o23, o24, _) => rec ((o17.1, o17.2 + (Utf8.decode o17.1 o17.2).2), (()), o24, ())
  else 
  (bif (((Utf8.decode o17.1 o17.2).1 : Int) : Int) == 10 then 
  (pstrings_Builder_WriteByte (92, (()), o19, ())).bind fun (o25, o26, _) => 
  (pstrings_Builder_WriteRune (110, (()), o26, ())).bind fun (y27, o28, o29, _) => rec ((o17.1, o17.2 + (Utf8.decode o17.1 o17.2).2), (()), o29, ())
  else 
  (pstrings_Builder_WriteRune (((Utf8.decode o17.1 o17.2).1 : Int), (()), o19, ())).bind fun (y30, o31, o32, _) => rec ((o17.1, o17.2 + (Utf8.decode o17.1 o17.2).2), (()), o32, ())))
  else 
  (bif (((Utf8.decode o17.1 o17.2).1 : Int) : Int) == 92 then 
  (pstrings_Builder_WriteByte (92, (()), o19, ())).bind fun (o33, o34, _) => 
  (pstrings_Builder_WriteRune (((Utf8.decode o17.1 o17.2).1 : Int), (()), o34, ())).bind fun (y35, o36, o37, _) => rec ((o17.1, o17.2 + (Utf8.decode o17.1 o17.2).2), (()), o37, ())
  else 
  (bif (((Utf8.decode o17.1 o17.2).1 : Int) : Int) == 10 then 
  (pstrings_Builder_WriteByte (92, (()), o19, ())).bind fun (o38, o39, _) => 
  (pstrings_Builder_WriteRune (110, (()), o39, ())).bind fun (y40, o41, o42, _) => rec ((o17.1, o17.2 + (Utf8.decode o17.1 o17.2).2), (()), o42, ())
  else 
  (pstrings_Builder_WriteRune (((Utf8.decode o17.1 o17.2).1 : Int), (()), o19, ())).bind fun (y43, o44, o45, _) => rec ((o17.1, o17.2 + (Utf8.decode o17.1 o17.2).2), (()), o45, ()))))
  else kx ((()), o19, ()))

/-- a round of a loop of value.tell -/
noncomputable def value_tell_s4 {ρ : Type} (self_value_tell : Ev.Val × Unit × (List Int) × Unit → Option (Unit × (List Int) × Unit)) (n : Nat) (rec : (List Ev.Val) × Int × Int × Unit × (List Int) × Unit → Option ρ) (kx : Unit × (List Int) × Unit → Option ρ) (kr : Unit → Option ρ) : (List Ev.Val) × Int × Int × Unit × (List Int) × Unit → Option ρ :=
  fun (v53, v54, v55, o56, o57, _) => 
  (bif decide ((v55 : Int) < v54) then 
  (ix v53 v55).bind fun x58 => 
  (bif decide ((v55 : Int) > 0) then 
  (pstrings_Builder_WriteByte (44, (()), o57, ())).bind fun (o59, o60, _) => 
  (self_value_tell ((Ev.Val.mk x58.kind x58.n x58.s x58.l), (()), o60, ())).bind fun (o61, o62, _) => rec (v53, v54, IntKind.wrap .i64 (v55 + 1), (()), o62, ())
  else 
  (self_value_tell ((Ev.Val.mk x58.kind x58.n x58.s x58.l), (()), o57, ())).bind fun (o63, o64, _) => rec (v53, v54, IntKind.wrap .i64 (v55 + 1), (()), o64, ()))
  else kx ((()), o57, ()))

noncomputable def F_value_tell_s4 {ρ : Type} (self_value_tell : Ev.Val × Unit × (List Int) × Unit → Option (Unit × (List Int) × Unit)) (n : Nat) (kr : Unit → Option ρ) : Int → Ev.Val → (Unit × (List Int) × Unit) → ((Unit × (List Int) × Unit) → Option ρ) → Option ρ :=
  fun v55 x58 (o56, o57, _) rec =>  
  (bif decide ((v55 : Int) > 0) then 
  (pstrings_Builder_WriteByte (44, (()), o57, ())).bind fun (o59, o60, _) => 
  (self_value_tell ((Ev.Val.mk x58.kind x58.n x58.s x58.l), (()), o60, ())).bind fun (o61, o62, _) => rec ((()), o62, ())
  else 
  (self_value_tell ((Ev.Val.mk x58.kind x58.n x58.s x58.l), (()), o57, ())).bind fun (o63, o64, _) => rec ((()), o64, ()))

theorem R_value_tell_s4 {ρ : Type} (self_value_tell : Ev.Val × Unit × (List Int) × Unit → Option (Unit × (List Int) × Unit)) (n : Nat) (kx : Unit × (List Int) × Unit → Option ρ) (kr : Unit → Option ρ) (l : List Ev.Val) (fuel : Nat) (o56 : Unit) (o57 : List Int) (hl : l.length ≤ 9223372036854775807) (hf : l.length < fuel) :
    iterN (fun rc => value_tell_s4 self_value_tell n rc kx kr) fuel (l, (l.length : Int), 0, o56, o57, ()) = foldK (F_value_tell_s4 self_value_tell n kr) (fun (o56, o57, _) => kx ((()), o57, ())) 0 l (o56, o57, ()) :=
  range_listM l (fun i (o56, o57, _) => (l, (l.length : Int), i, o56, o57, ())) _ _ _ (fun rec i s => rfl) hl fuel (o56, o57, ()) hf

/-- value.tell -/
noncomputable def value_tell_b (self_value_tell : Ev.Val × Unit × (List Int) × Unit → Option (Unit × (List Int) × Unit)) (n : Nat) : Ev.Val × Unit × (List Int) × Unit → Option (Unit × (List Int) × Unit) :=
  fun (a1, o2, o3, _) => 
  (bif (a1.kind : Int) == 0 then 
  (pstrings_Builder_WriteString ((⟨#[110, 117, 108, 108]⟩ : ByteArray), (()), o3, ())).bind fun (y4, o5, o6, _) => some ((()), o6, ())
  else 
  (bif (a1.kind : Int) == 1 then 
  (strconv_FormatBool ((a1.n : Int) == 1, ())).bind fun (y7, _) => 
  (pstrings_Builder_WriteString (y7, (()), o3, ())).bind fun (y8, o9, o10, _) => some ((()), o10, ())
  else 
  (bif (a1.kind : Int) == 2 then 
  (itoaN (a1.n, ())).bind fun (y11, _) => 
  (pstrings_Builder_WriteString (y11, (()), o3, ())).bind fun (y12, o13, o14, _) => some ((()), o14, ())
  else 
  (bif (a1.kind : Int) == 3 then 
  (pstrings_Builder_WriteByte (39, (()), o3, ())).bind fun (o15, o16, _) => 
  iterN (fun rc50 => value_tell_s1 self_value_tell n rc50 (fun (o46, o47, _) => 
  (pstrings_Builder_WriteByte (39, (()), o47, ())).bind fun (o48, o49, _) => some ((()), o49, ())) (fun (_) => none)) (n) ((a1.s, 0), (()), o16, ())
  else 
  (bif (a1.kind : Int) == 4 then 
  (pstrings_Builder_WriteByte (91, (()), o3, ())).bind fun (o51, o52, _) => 
  iterN (fun rc69 => value_tell_s4 self_value_tell n rc69 (fun (o65, o66, _) => 
  (pstrings_Builder_WriteByte (93, (()), o66, ())).bind fun (o67, o68, _) => some ((()), o68, ())) (fun (_) => none)) (n) (a1.l, (a1.l.length : Int), 0, (()), o52, ())
  else some ((()), o3, ()))))))

noncomputable def value_tell : Nat → Ev.Val × Unit × (List Int) × Unit → Option (Unit × (List Int) × Unit)
  | 0, _ => none
  | n + 1, x => value_tell_b (value_tell n) n x

/-- a round of a loop of value.check -/
noncomputable def value_check_s1 {ρ : Type} (self_value_check : Ev.Val × Int × Unit → Option (Int × Unit)) (n : Nat) (rec : Int × (List Ev.Val) × Int × Int × (Ev.Val × Unit) × Unit → Option ρ) (kx : (Ev.Val × Unit) × Unit → Option ρ) (kr : Int × Unit → Option ρ) : Int × (List Ev.Val) × Int × Int × (Ev.Val × Unit) × Unit → Option ρ :=
  fun (v4, v5, v6, v7, o8, _) => 
  (bif decide ((v7 : Int) < v6) then 
  (ix v5 v7).bind fun x9 => 
  (self_value_check ((Ev.Val.mk x9.kind x9.n x9.s x9.l), IntKind.wrap .i64 (v4 + 1), ())).bind fun (y10, _) => 
  (bif (y10 : Int) != 0 then kr (y10, ())
  else rec (v4, v5, v6, IntKind.wrap .i64 (v7 + 1), ((Ev.Val.mk o8.1.kind o8.1.n o8.1.s o8.1.l), ()), ()))
  else kx (((Ev.Val.mk o8.1.kind o8.1.n o8.1.s o8.1.l), ()), ()))

noncomputable def F_value_check_s1 {ρ : Type} (self_value_check : Ev.Val × Int × Unit → Option (Int × Unit)) (n : Nat) (kr : Int × Unit → Option ρ) : Int → Ev.Val → (Int × (Ev.Val × Unit) × Unit) → ((Int × (Ev.Val × Unit) × Unit) → Option ρ) → Option ρ :=
  fun v7 x9 (v4, o8, _) rec =>  
  (self_value_check ((Ev.Val.mk x9.kind x9.n x9.s x9.l), IntKind.wrap .i64 (v4 + 1), ())).bind fun (y10, _) => 
  (bif (y10 : Int) != 0 then kr (y10, ())
  else rec (v4, ((Ev.Val.mk o8.1.kind o8.1.n o8.1.s o8.1.l), ()), ()))

theorem R_value_check_s1 {ρ : Type} (self_value_check : Ev.Val × Int × Unit → Option (Int × Unit)) (n : Nat) (kx : (Ev.Val × Unit) × Unit → Option ρ) (kr : Int × Unit → Option ρ) (l : List Ev.Val) (fuel : Nat) (v4 : Int) (o8 : Ev.Val × Unit) (hl : l.length ≤ 9223372036854775807) (hf : l.length < fuel) :
    iterN (fun rc => value_check_s1 self_value_check n rc kx kr) fuel (v4, l, (l.length : Int), 0, o8, ()) = foldK (F_value_check_s1 self_value_check n kr) (fun (v4, o8, _) => kx (((Ev.Val.mk o8.1.kind o8.1.n o8.1.s o8.1.l), ()), ())) 0 l (v4, o8, ()) :=
  range_listM l (fun i (v4, o8, _) => (v4, l, (l.length : Int), i, o8, ())) _ _ _ (fun rec i s => rfl) hl fuel (v4, o8, ()) hf

/-- value.check -/
noncomputable def value_check_b (self_value_check : Ev.Val × Int × Unit → Option (Int × Unit)) (n : Nat) : Ev.Val × Int × Unit → Option (Int × Unit) :=
  fun (a1, a2, _) => 
  (bif (a1.kind : Int) == 0 then 
  (bif !((((a1.n : Int) == 0) && (seq a1.s (⟨#[]⟩ : ByteArray))) && (((a1.l.length : Int) : Int) == 0)) then some (6, ())
  else some (0, ()))
  else 
  (bif (a1.kind : Int) == 1 then 
  (bif !(((((a1.n : Int) == 0) || ((a1.n : Int) == 1)) && (seq a1.s (⟨#[]⟩ : ByteArray))) && (((a1.l.length : Int) : Int) == 0)) then some (6, ())
  else some (0, ()))
  else 
  (bif (a1.kind : Int) == 2 then 
  (bif !((seq a1.s (⟨#[]⟩ : ByteArray)) && (((a1.l.length : Int) : Int) == 0)) then some (6, ())
  else some (0, ()))
  else 
  (bif (a1.kind : Int) == 3 then 
  (bif decide (((a1.s.size : Int) : Int) > 4000) then some (2, ())
  else 
  (bif (a1.n : Int) == 0 then 
  (validN (a1.s, ())).bind fun (y3, _) => 
  (bif !(y3 && (((a1.l.length : Int) : Int) == 0)) then some (6, ())
  else some (0, ()))
  else some (6, ())))
  else 
  (bif (a1.kind : Int) == 4 then 
  (bif (decide (((a1.l.length : Int) : Int) > 30)) || (decide ((a2 : Int) > 6)) then some (2, ())
  else 
  iterN (fun rc13 => value_check_s1 self_value_check n rc13 (fun (o11, _) => 
  (bif !(((o11.1.n : Int) == 0) && (seq o11.1.s (⟨#[]⟩ : ByteArray))) then some (6, ())
  else some (0, ()))) (fun (v12, _) => some (v12, ()))) (n) (a2, a1.l, (a1.l.length : Int), 0, ((Ev.Val.mk a1.kind a1.n a1.s a1.l), ()), ()))
  else some (6, ()))))))

noncomputable def value_check : Nat → Ev.Val × Int × Unit → Option (Int × Unit)
  | 0, _ => none
  | n + 1, x => value_check_b (value_check n) n x

/-- value.Check -/
noncomputable def value_Check (n : Nat) : Ev.Val × Unit → Option (Int × Unit) :=
  fun (a1, _) => 
  (value_check n ((Ev.Val.mk a1.kind a1.n a1.s a1.l), 1, ())).bind fun (y2, _) => some (y2, ())

/-- value.Print -/
noncomputable def value_Print (n : Nat) : Ev.Val × Unit → Option (ByteArray × Int × Unit) :=
  fun (a1, _) => 
  (value_Check n ((Ev.Val.mk a1.kind a1.n a1.s a1.l), ())).bind fun (y2, _) => 
  (bif (y2 : Int) != 0 then some ((⟨#[]⟩ : ByteArray), y2, ())
  else 
  (value_tell n ((Ev.Val.mk a1.kind a1.n a1.s a1.l), (()), ([] : List Int), ())).bind fun (o3, o4, _) => 
  (pstrings_Builder_Len ((()), o4, ())).bind fun (y5, o6, o7, _) => 
  (bif decide ((y5 : Int) > 4000) then some ((⟨#[]⟩ : ByteArray), 2, ())
  else 
  (stringN ((()), o7, ())).bind fun (y8, _) => some (y8, 0, ())))

/-- internal.stringslite.HasPrefix -/
noncomputable def internal_stringslite_HasPrefix : ByteArray × ByteArray × Unit → Option (Bool × Unit) :=
  fun (a1, a2, _) => 
  (bif decide (((a1.size : Int) : Int) ≥ (a2.size : Int)) then 
  (ssl a1 0 (a2.size : Int)).bind fun s3 => some (seq s3 a2, ())
  else some (false, ()))

/-- strings.HasPrefix -/
noncomputable def strings_HasPrefix : ByteArray × ByteArray × Unit → Option (Bool × Unit) :=
  fun (a1, a2, _) => 
  (internal_stringslite_HasPrefix (a1, a2, ())).bind fun (y3, _) => some (y3, ())

/-- (*value.reader).eat -/
noncomputable def pvalue_reader_eat : ByteArray × (ByteArray × Int × Unit) × Unit → Option (Bool × (ByteArray × Int × Unit) × Unit) :=
  fun (a1, o2, _) => 
  (ssl o2.1 o2.2.1 (o2.1.size : Int)).bind fun s4 => 
  (strings_HasPrefix (s4, a1, ())).bind fun (y5, _) => 
  (bif !y5 then some (false, (o2.1, o2.2.1, ()), ())
  else some (true, (o2.1, IntKind.wrap .i64 (o2.2.1 + (a1.size : Int)), ()), ()))

/-- a round of a loop of (*value.reader).text -/
noncomputable def pvalue_reader_text_s0 {ρ : Type} (n : Nat) (rec : Unit × (List Int) × (ByteArray × Int × Unit) × Unit → Option ρ) (kx : Unit → Option ρ) (kr : ByteArray × (ByteArray × Int × Unit) × Unit → Option ρ) : Unit × (List Int) × (ByteArray × Int × Unit) × Unit → Option ρ :=
  fun (o2, o3, o4, _) => 
  (pvalue_reader_eat ((⟨#[39]⟩ : ByteArray), (o4.1, o4.2.1, ()), ())).bind fun (y5, o6, _) => 
  (bif y5 then 
  (stringN ((()), o3, ())).bind fun (y7, _) => kr (y7, (o6.1, o6.2.1, ()), ())
  else 
  (pvalue_reader_eat ((⟨#[92, 110]⟩ : ByteArray), (o6.1, o6.2.1, ()), ())).bind fun (y8, o9, _) => 
  (bif y8 then 
  (pstrings_Builder_WriteByte (10, (()), o3, ())).bind fun (o10, o11, _) => rec ((()), o11, (o9.1, o9.2.1, ()), ())
  else 
  (pvalue_reader_eat ((⟨#[92, 39]⟩ : ByteArray), (o9.1, o9.2.1, ()), ())).bind fun (y12, o13, _) => 
  (bif y12 then 
  (pstrings_Builder_WriteByte (39, (()), o3, ())).bind fun (o14, o15, _) => rec ((()), o15, (o13.1, o13.2.1, ()), ())
  else 
  (pvalue_reader_eat ((⟨#[92, 92]⟩ : ByteArray), (o13.1, o13.2.1, ()), ())).bind fun (y16, o17, _) => 
  (bif y16 then 
  (pstrings_Builder_WriteByte (92, (()), o3, ())).bind fun (o18, o19, _) => rec ((()), o19, (o17.1, o17.2.1, ()), ())
  else 
  (ssl o17.1 o17.2.1 (o17.1.size : Int)).bind fun s21 => 
  (decodeN (s21, ())).bind fun (y22, y23, _) => 
  (bif ((((y23 : Int) == 0) || (((y22 : Int) == 65533) && ((y23 : Int) == 1))) || ((y22 : Int) == 92)) || ((y22 : Int) == 10) then none
  else 
  (pstrings_Builder_WriteRune (y22, (()), o3, ())).bind fun (y24, o25, o26, _) => rec ((()), o26, (o17.1, IntKind.wrap .i64 (o17.2.1 + y23), ()), ()))))))

/-- (*value.reader).text -/
noncomputable def pvalue_reader_text (n : Nat) : (ByteArray × Int × Unit) × Unit → Option (ByteArray × (ByteArray × Int × Unit) × Unit) :=
  fun (o1, _) => 
  iterN (fun rc29 => pvalue_reader_text_s0 n rc29 (fun (_) => none) (fun (v27, o28, _) => some (v27, (o28.1, o28.2.1, ()), ()))) (n) ((()), ([] : List Int), (o1.1, o1.2.1, ()), ())

/-- value.truth -/
noncomputable def value_truth : Bool × Unit → Option (Ev.Val × Unit) :=
  fun (a1, _) => 
  (bif a1 then some ((Ev.Val.mk 1 1 (⟨#[]⟩ : ByteArray) ([] : List Ev.Val)), ())
  else some ((Ev.Val.mk 1 0 (⟨#[]⟩ : ByteArray) ([] : List Ev.Val)), ()))

/-- a round of a loop of (*value.reader).value -/
noncomputable def pvalue_reader_value_s1 {ρ : Type} (self_pvalue_reader_value : Int × (ByteArray × Int × Unit) × Unit → Option (Ev.Val × (ByteArray × Int × Unit) × Unit)) (n : Nat) (rec : Int × (Ev.Val × Unit) × (Int × Int × ByteArray × Unit) × (List Ev.Val) × (ByteArray × Int × Unit) × Unit → Option ρ) (kx : Unit → Option ρ) (kr : (Int × Int × ByteArray × Unit) × (List Ev.Val) × (ByteArray × Int × Unit) × Unit → Option ρ) : Int × (Ev.Val × Unit) × (Int × Int × ByteArray × Unit) × (List Ev.Val) × (ByteArray × Int × Unit) × Unit → Option ρ :=
  fun (v19, o20, o21, o22, o23, _) => 
  (self_pvalue_reader_value (IntKind.wrap .i64 (v19 + 1), (o23.1, o23.2.1, ()), ())).bind fun (y25, o26, _) => 
  ck (room (o22 ++ ([(Ev.Val.mk y25.kind y25.n y25.s y25.l)] : List Ev.Val)).length 56) (
  (pvalue_reader_eat ((⟨#[93]⟩ : ByteArray), (o26.1, o26.2.1, ()), ())).bind fun (y27, o28, _) => 
  (bif y27 then kr ((o21.1, o21.2.1, o21.2.2.1, ()), o22 ++ ([(Ev.Val.mk y25.kind y25.n y25.s y25.l)] : List Ev.Val), (o28.1, o28.2.1, ()), ())
  else 
  (pvalue_reader_eat ((⟨#[44]⟩ : ByteArray), (o28.1, o28.2.1, ()), ())).bind fun (y29, o30, _) => 
  (bif !y29 then none
  else rec (v19, ((Ev.Val.mk o20.1.kind o20.1.n o20.1.s o20.1.l), ()), (o21.1, o21.2.1, o21.2.2.1, ()), o22 ++ ([(Ev.Val.mk y25.kind y25.n y25.s y25.l)] : List Ev.Val), (o30.1, o30.2.1, ()), ()))))

/-- a round of a loop of (*value.reader).value -/
noncomputable def pvalue_reader_value_s3 {ρ : Type} (self_pvalue_reader_value : Int × (ByteArray × Int × Unit) × Unit → Option (Ev.Val × (ByteArray × Int × Unit) × Unit)) (n : Nat) (rec : Int × (Ev.Val × Unit) × (ByteArray × Int × Unit) × Unit → Option ρ) (kx : Int × (Ev.Val × Unit) × (ByteArray × Int × Unit) × Unit → Option ρ) (kr : Unit → Option ρ) : Int × (Ev.Val × Unit) × (ByteArray × Int × Unit) × Unit → Option ρ :=
  fun (v37, o38, o39, _) => 
  (bif decide ((o39.2.1 : Int) < (o39.1.size : Int)) then 
  (sat o39.1 o39.2.1).bind fun c40 => 
  (bif decide ((c40 : Int) ≥ 48) then 
  (sat o39.1 o39.2.1).bind fun c41 => 
  (bif decide ((c41 : Int) ≤ 57) then rec (v37, ((Ev.Val.mk o38.1.kind o38.1.n o38.1.s o38.1.l), ()), (o39.1, IntKind.wrap .i64 (o39.2.1 + 1), ()), ())
  else kx (v37, ((Ev.Val.mk o38.1.kind o38.1.n o38.1.s o38.1.l), ()), (o39.1, o39.2.1, ()), ()))
  else kx (v37, ((Ev.Val.mk o38.1.kind o38.1.n o38.1.s o38.1.l), ()), (o39.1, o39.2.1, ()), ()))
  else kx (v37, ((Ev.Val.mk o38.1.kind o38.1.n o38.1.s o38.1.l), ()), (o39.1, o39.2.1, ()), ()))

/-- (*value.reader).value -/
noncomputable def pvalue_reader_value_b (self_pvalue_reader_value : Int × (ByteArray × Int × Unit) × Unit → Option (Ev.Val × (ByteArray × Int × Unit) × Unit)) (n : Nat) : Int × (ByteArray × Int × Unit) × Unit → Option (Ev.Val × (ByteArray × Int × Unit) × Unit) :=
  fun (a1, o2, _) => 
  (pvalue_reader_eat ((⟨#[110, 117, 108, 108]⟩ : ByteArray), (o2.1, o2.2.1, ()), ())).bind fun (y3, o4, _) => 
  (bif y3 then some ((Ev.Val.mk 0 0 (⟨#[]⟩ : ByteArray) ([] : List Ev.Val)), (o4.1, o4.2.1, ()), ())
  else 
  (pvalue_reader_eat ((⟨#[116, 114, 117, 101]⟩ : ByteArray), (o4.1, o4.2.1, ()), ())).bind fun (y5, o6, _) => 
  (bif y5 then 
  (value_truth (true, ())).bind fun (y7, _) => some ((Ev.Val.mk y7.kind y7.n y7.s y7.l), (o6.1, o6.2.1, ()), ())
  else 
  (pvalue_reader_eat ((⟨#[102, 97, 108, 115, 101]⟩ : ByteArray), (o6.1, o6.2.1, ()), ())).bind fun (y8, o9, _) => 
  (bif y8 then 
  (value_truth (false, ())).bind fun (y10, _) => some ((Ev.Val.mk y10.kind y10.n y10.s y10.l), (o9.1, o9.2.1, ()), ())
  else 
  (pvalue_reader_eat ((⟨#[39]⟩ : ByteArray), (o9.1, o9.2.1, ()), ())).bind fun (y11, o12, _) => 
  (bif y11 then 
  (pvalue_reader_text n ((o12.1, o12.2.1, ()), ())).bind fun (y13, o14, _) => some ((Ev.Val.mk 3 0 y13 ([] : List Ev.Val)), (o14.1, o14.2.1, ()), ())
  else 
  (pvalue_reader_eat ((⟨#[91]⟩ : ByteArray), (o12.1, o12.2.1, ()), ())).bind fun (y15, o16, _) => 
  (bif y15 then 
  (bif decide ((a1 : Int) > 40) then none
  else 
  (pvalue_reader_eat ((⟨#[93]⟩ : ByteArray), (o16.1, o16.2.1, ()), ())).bind fun (y17, o18, _) => 
  (bif y17 then some ((Ev.Val.mk 4 0 (⟨#[]⟩ : ByteArray) ([] : List Ev.Val)), (o18.1, o18.2.1, ()), ())
  else 
  iterN (fun rc34 => pvalue_reader_value_s1 self_pvalue_reader_value n rc34 (fun (_) => none) (fun (o31, o32, o33, _) => some ((Ev.Val.mk o31.1 o31.2.1 o31.2.2.1 o32), (o33.1, o33.2.1, ()), ()))) (n) (a1, ((Ev.Val.mk 0 0 (⟨#[]⟩ : ByteArray) ([] : List Ev.Val)), ()), (4, 0, (⟨#[]⟩ : ByteArray), ()), ([] : List Ev.Val), (o18.1, o18.2.1, ()), ())))
  else 
  (pvalue_reader_eat ((⟨#[45]⟩ : ByteArray), (o16.1, o16.2.1, ()), ())).bind fun (y35, o36, _) => 
  iterN (fun rc50 => pvalue_reader_value_s3 self_pvalue_reader_value n rc50 (fun (v42, o43, o44, _) => 
  (ssl o44.1 v42 o44.2.1).bind fun s46 => 
  (atoiN (s46, ())).bind fun (y47, _) => 
  (itoaN (y47, ())).bind fun (y48, _) => 
  (ssl o44.1 v42 o44.2.1).bind fun s49 => 
  (bif !(seq y48 s49) then none
  else some ((Ev.Val.mk 2 y47 (⟨#[]⟩ : ByteArray) ([] : List Ev.Val)), (o44.1, o44.2.1, ()), ()))) (fun (_) => none)) (n) (o2.2.1, ((Ev.Val.mk 0 0 (⟨#[]⟩ : ByteArray) ([] : List Ev.Val)), ()), (o36.1, o36.2.1, ()), ()))))))

noncomputable def pvalue_reader_value : Nat → Int × (ByteArray × Int × Unit) × Unit → Option (Ev.Val × (ByteArray × Int × Unit) × Unit)
  | 0, _ => none
  | n + 1, x => pvalue_reader_value_b (pvalue_reader_value n) n x

/-- value.Parse -/
noncomputable def value_Parse (n : Nat) : ByteArray × Unit → Option (Ev.Val × Int × Int × Unit) :=
  fun (a1, _) => 
  (bif decide (((a1.size : Int) : Int) > 4000) then some ((Ev.Val.mk 0 0 (⟨#[]⟩ : ByteArray) ([] : List Ev.Val)), 0, 2, ())
  else 
  (pvalue_reader_value n (1, (a1, 0, ()), ())).bind fun (y2, o3, _) => 
  (bif decide ((o3.2.1 : Int) < (a1.size : Int)) then none
  else 
  (value_Check n ((Ev.Val.mk y2.kind y2.n y2.s y2.l), ())).bind fun (y4, _) => 
  (bif (y4 : Int) != 0 then some ((Ev.Val.mk 0 0 (⟨#[]⟩ : ByteArray) ([] : List Ev.Val)), 0, y4, ())
  else some ((Ev.Val.mk y2.kind y2.n y2.s y2.l), 0, 0, ()))))

/-- espalierlaw.num -/
noncomputable def espalierlaw_num : Int × Unit → Option (Ev.Val × Unit) :=
  fun (a1, _) => some ((Ev.Val.mk 2 a1 (⟨#[]⟩ : ByteArray) ([] : List Ev.Val)), ())

/-- espalierlaw.str -/
noncomputable def espalierlaw_str : ByteArray × Unit → Option (Ev.Val × Unit) :=
  fun (a1, _) => some ((Ev.Val.mk 3 0 a1 ([] : List Ev.Val)), ())

/-- espalierlaw.list -/
noncomputable def espalierlaw_list : (List Ev.Val) × Unit → Option (Ev.Val × Unit) :=
  fun (a1, _) => some ((Ev.Val.mk 4 0 (⟨#[]⟩ : ByteArray) a1), ())

/-- bytes.Compare -/
noncomputable def bytes_Compare : (List Int) × (List Int) × Unit → Option (Int × Unit) :=
  fun (a1, a2, _) => 
  (cmpN (a1, a2, ())).bind fun (y3, _) => some (y3, ())

/-- a round of a loop of espalierref.OrderOf -/
noncomputable def espalierref_OrderOf_s1 {ρ : Type} (self_espalierref_OrderOf : Ev.Val × Ev.Val × Unit → Option (Int × Unit)) (n : Nat) (rec : Int × (Ev.Val × Unit) × (Ev.Val × Unit) × Unit → Option ρ) (kx : (Ev.Val × Unit) × (Ev.Val × Unit) × Unit → Option ρ) (kr : Int × Unit → Option ρ) : Int × (Ev.Val × Unit) × (Ev.Val × Unit) × Unit → Option ρ :=
  fun (v4, o5, o6, _) => 
  (bif (decide ((v4 : Int) < (o5.1.l.length : Int))) && (decide ((v4 : Int) < (o6.1.l.length : Int))) then 
  (ix o5.1.l v4).bind fun x9 => 
  (ix o6.1.l v4).bind fun x10 => 
  (self_espalierref_OrderOf ((Ev.Val.mk x9.kind x9.n x9.s x9.l), (Ev.Val.mk x10.kind x10.n x10.s x10.l), ())).bind fun (y11, _) => 
  (bif (y11 : Int) != 0 then kr (y11, ())
  else rec (IntKind.wrap .i64 (v4 + 1), ((Ev.Val.mk o5.1.kind o5.1.n o5.1.s o5.1.l), ()), ((Ev.Val.mk o6.1.kind o6.1.n o6.1.s o6.1.l), ()), ()))
  else kx (((Ev.Val.mk o5.1.kind o5.1.n o5.1.s o5.1.l), ()), ((Ev.Val.mk o6.1.kind o6.1.n o6.1.s o6.1.l), ()), ()))

/-- espalierref.OrderOf -/
noncomputable def espalierref_OrderOf_b (self_espalierref_OrderOf : Ev.Val × Ev.Val × Unit → Option (Int × Unit)) (n : Nat) : Ev.Val × Ev.Val × Unit → Option (Int × Unit) :=
  fun (a1, a2, _) => 
  (bif decide ((a1.kind : Int) < a2.kind) then some ((-1), ())
  else 
  (bif decide ((a1.kind : Int) > a2.kind) then some (1, ())
  else 
  (bif decide ((a1.n : Int) < a2.n) then some ((-1), ())
  else 
  (bif decide ((a1.n : Int) > a2.n) then some (1, ())
  else 
  (bif !(seq a1.s a2.s) then 
  (bytes_Compare (bytesI a1.s, bytesI a2.s, ())).bind fun (y3, _) => some (y3, ())
  else 
  iterN (fun rc15 => espalierref_OrderOf_s1 self_espalierref_OrderOf n rc15 (fun (o12, o13, _) => 
  (bif decide (((o12.1.l.length : Int) : Int) < (o13.1.l.length : Int)) then some ((-1), ())
  else 
  (bif decide (((o12.1.l.length : Int) : Int) > (o13.1.l.length : Int)) then some (1, ())
  else some (0, ())))) (fun (v14, _) => some (v14, ()))) (n) (0, ((Ev.Val.mk a1.kind a1.n a1.s a1.l), ()), ((Ev.Val.mk a2.kind a2.n a2.s a2.l), ()), ()))))))

noncomputable def espalierref_OrderOf : Nat → Ev.Val × Ev.Val × Unit → Option (Int × Unit)
  | 0, _ => none
  | n + 1, x => espalierref_OrderOf_b (espalierref_OrderOf n) n x

/-- espalierref.SameValue -/
noncomputable def espalierref_SameValue (n : Nat) : Ev.Val × Ev.Val × Unit → Option (Bool × Unit) :=
  fun (a1, a2, _) => 
  (espalierref_OrderOf n ((Ev.Val.mk a1.kind a1.n a1.s a1.l), (Ev.Val.mk a2.kind a2.n a2.s a2.l), ())).bind fun (y3, _) => some ((y3 : Int) == 0, ())

/-- espalierlaw.valued -/
noncomputable def espalierlaw_valued (n : Nat) : Unit → Option (Bool × Unit) :=
  fun (_) => 
  (espalierlaw_num ((-7), ())).bind fun (y1, _) => 
  (espalierlaw_str ((⟨#[105, 116, 39, 115]⟩ : ByteArray), ())).bind fun (y2, _) => 
  (espalierlaw_list (([(Ev.Val.mk y1.kind y1.n y1.s y1.l), (Ev.Val.mk y2.kind y2.n y2.s y2.l), (Ev.Val.mk 0 0 (⟨#[]⟩ : ByteArray) ([] : List Ev.Val))] : List Ev.Val), ())).bind fun (y3, _) => 
  (value_Print n ((Ev.Val.mk y3.kind y3.n y3.s y3.l), ())).bind fun (y4, y5, _) => 
  (value_Parse n ((⟨#[91, 45, 55, 44, 39, 105, 116, 92, 39, 115, 39, 44, 110, 117, 108, 108, 93]⟩ : ByteArray), ())).bind fun (y6, y7, y8, _) => 
  (bif ((((y5 : Int) == 0) && ((y8 : Int) == 0)) && ((y7 : Int) == 0)) && (seq y4 (⟨#[91, 45, 55, 44, 39, 105, 116, 92, 39, 115, 39, 44, 110, 117, 108, 108, 93]⟩ : ByteArray)) then 
  (espalierlaw_num ((-7), ())).bind fun (y9, _) => 
  (espalierlaw_str ((⟨#[105, 116, 39, 115]⟩ : ByteArray), ())).bind fun (y10, _) => 
  (espalierlaw_list (([(Ev.Val.mk y9.kind y9.n y9.s y9.l), (Ev.Val.mk y10.kind y10.n y10.s y10.l), (Ev.Val.mk 0 0 (⟨#[]⟩ : ByteArray) ([] : List Ev.Val))] : List Ev.Val), ())).bind fun (y11, _) => 
  (espalierref_SameValue n ((Ev.Val.mk y6.kind y6.n y6.s y6.l), (Ev.Val.mk y11.kind y11.n y11.s y11.l), ())).bind fun (y12, _) => some (y12, ())
  else some (false, ()))

/-- cmp.isNaN int  -/
noncomputable def cmp_isNaN_int : Int × Unit → Option (Bool × Unit) :=
  fun (a1, _) => some ((a1 : Int) != a1, ())

/-- cmp.Compare int  -/
noncomputable def cmp_Compare_int : Int × Int × Unit → Option (Int × Unit) :=
  fun (a1, a2, _) => 
  (cmp_isNaN_int (a1, ())).bind fun (y3, _) => 
  (cmp_isNaN_int (a2, ())).bind fun (y4, _) => 
  (bif y3 then 
  (bif y4 then some (0, ())
  else some ((-1), ()))
  else 
  (bif y4 then some (1, ())
  else 
  (bif decide ((a1 : Int) < a2) then some ((-1), ())
  else 
  (bif decide ((a1 : Int) > a2) then some (1, ())
  else some (0, ())))))

/-- cmp.isNaN string  -/
noncomputable def cmp_isNaN_string : ByteArray × Unit → Option (Bool × Unit) :=
  fun (a1, _) => some (!(seq a1 a1), ())

/-- cmp.Compare string  -/
noncomputable def cmp_Compare_string : ByteArray × ByteArray × Unit → Option (Int × Unit) :=
  fun (a1, a2, _) => 
  (cmp_isNaN_string (a1, ())).bind fun (y3, _) => 
  (cmp_isNaN_string (a2, ())).bind fun (y4, _) => 
  (bif y3 then 
  (bif y4 then some (0, ())
  else some ((-1), ()))
  else 
  (bif y4 then some (1, ())
  else 
  (bif sless a1 a2 then some ((-1), ())
  else 
  (bif !(sless a1 a2 || seq a1 a2) then some (1, ())
  else some (0, ())))))

/-- a round of a loop of slices.CompareFunc   api.Value,  api.Value,api.Value,api.Value  -/
noncomputable def slices_CompareFunc_api_Value_api_Value_api_Value_api_Value_value_Order_s0 {ρ : Type} (self_value_Order : Ev.Val × Ev.Val × Unit → Option (Int × Unit)) (n : Nat) (rec : (List Ev.Val) × (List Ev.Val) × (List Ev.Val) × Int × Int × Unit → Option ρ) (kx : (List Ev.Val) × (List Ev.Val) × Unit → Option ρ) (kr : Int × Unit → Option ρ) : (List Ev.Val) × (List Ev.Val) × (List Ev.Val) × Int × Int × Unit → Option ρ :=
  fun (v3, v4, v5, v6, v7, _) => 
  (bif decide ((v7 : Int) < v6) then 
  (ix v5 v7).bind fun x8 => 
  (bif decide ((v7 : Int) ≥ (v4.length : Int)) then kr (1, ())
  else 
  (ix v4 v7).bind fun x9 => 
  (self_value_Order ((Ev.Val.mk x8.kind x8.n x8.s x8.l), (Ev.Val.mk x9.kind x9.n x9.s x9.l), ())).bind fun (y10, _) => 
  (bif (y10 : Int) != 0 then kr (y10, ())
  else rec (v3, v4, v5, v6, IntKind.wrap .i64 (v7 + 1), ())))
  else kx (v3, v4, ()))

noncomputable def F_slices_CompareFunc_api_Value_api_Value_api_Value_api_Value_value_Order_s0 {ρ : Type} (self_value_Order : Ev.Val × Ev.Val × Unit → Option (Int × Unit)) (n : Nat) (kr : Int × Unit → Option ρ) : Int → Ev.Val → ((List Ev.Val) × (List Ev.Val) × Unit) → (((List Ev.Val) × (List Ev.Val) × Unit) → Option ρ) → Option ρ :=
  fun v7 x8 (v3, v4, _) rec =>  
  (bif decide ((v7 : Int) ≥ (v4.length : Int)) then kr (1, ())
  else 
  (ix v4 v7).bind fun x9 => 
  (self_value_Order ((Ev.Val.mk x8.kind x8.n x8.s x8.l), (Ev.Val.mk x9.kind x9.n x9.s x9.l), ())).bind fun (y10, _) => 
  (bif (y10 : Int) != 0 then kr (y10, ())
  else rec (v3, v4, ())))

theorem R_slices_CompareFunc_api_Value_api_Value_api_Value_api_Value_value_Order_s0 {ρ : Type} (self_value_Order : Ev.Val × Ev.Val × Unit → Option (Int × Unit)) (n : Nat) (kx : (List Ev.Val) × (List Ev.Val) × Unit → Option ρ) (kr : Int × Unit → Option ρ) (l : List Ev.Val) (fuel : Nat) (v3 : List Ev.Val) (v4 : List Ev.Val) (hl : l.length ≤ 9223372036854775807) (hf : l.length < fuel) :
    iterN (fun rc => slices_CompareFunc_api_Value_api_Value_api_Value_api_Value_value_Order_s0 self_value_Order n rc kx kr) fuel (v3, v4, l, (l.length : Int), 0, ()) = foldK (F_slices_CompareFunc_api_Value_api_Value_api_Value_api_Value_value_Order_s0 self_value_Order n kr) (fun (v3, v4, _) => kx (v3, v4, ())) 0 l (v3, v4, ()) :=
  range_listM l (fun i (v3, v4, _) => (v3, v4, l, (l.length : Int), i, ())) _ _ _ (fun rec i s => rfl) hl fuel (v3, v4, ()) hf

/-- slices.CompareFunc   api.Value,  api.Value,api.Value,api.Value  -/
noncomputable def slices_CompareFunc_api_Value_api_Value_api_Value_api_Value_value_Order (self_value_Order : Ev.Val × Ev.Val × Unit → Option (Int × Unit)) (n : Nat) : (List Ev.Val) × (List Ev.Val) × Unit → Option (Int × Unit) :=
  fun (a1, a2, _) => 
  iterN (fun rc14 => slices_CompareFunc_api_Value_api_Value_api_Value_api_Value_value_Order_s0 self_value_Order n rc14 (fun (v11, v12, _) => 
  (bif decide (((v11.length : Int) : Int) < (v12.length : Int)) then some ((-1), ())
  else some (0, ()))) (fun (v13, _) => some (v13, ()))) (n) (a1, a2, a1, (a1.length : Int), 0, ())

/-- a round of a loop of cmp.Or int  -/
noncomputable def cmp_Or_int_s0 {ρ : Type} (n : Nat) (rec : Int × (List Int) × Int × Int × Unit → Option ρ) (kx : Int × Unit → Option ρ) (kr : Int × Unit → Option ρ) : Int × (List Int) × Int × Int × Unit → Option ρ :=
  fun (v2, v3, v4, v5, _) => 
  (bif decide ((v5 : Int) < v4) then 
  (ix v3 v5).bind fun x6 => 
  (bif (x6 : Int) != v2 then kr (x6, ())
  else rec (v2, v3, v4, IntKind.wrap .i64 (v5 + 1), ()))
  else kx (v2, ()))

noncomputable def F_cmp_Or_int_s0 {ρ : Type} (n : Nat) (kr : Int × Unit → Option ρ) : Int → Int → (Int × Unit) → ((Int × Unit) → Option ρ) → Option ρ :=
  fun v5 x6 (v2, _) rec =>  
  (bif (x6 : Int) != v2 then kr (x6, ())
  else rec (v2, ()))

theorem R_cmp_Or_int_s0 {ρ : Type} (n : Nat) (kx : Int × Unit → Option ρ) (kr : Int × Unit → Option ρ) (l : List Int) (fuel : Nat) (v2 : Int) (hl : l.length ≤ 9223372036854775807) (hf : l.length < fuel) :
    iterN (fun rc => cmp_Or_int_s0 n rc kx kr) fuel (v2, l, (l.length : Int), 0, ()) = foldK (F_cmp_Or_int_s0 n kr) (fun (v2, _) => kx (v2, ())) 0 l (v2, ()) :=
  range_listM l (fun i (v2, _) => (v2, l, (l.length : Int), i, ())) _ _ _ (fun rec i s => rfl) hl fuel (v2, ()) hf

/-- cmp.Or int  -/
noncomputable def cmp_Or_int (n : Nat) : (List Int) × Unit → Option (Int × Unit) :=
  fun (a1, _) => 
  iterN (fun rc9 => cmp_Or_int_s0 n rc9 (fun (v7, _) => some (v7, ())) (fun (v8, _) => some (v8, ()))) (n) (0, a1, (a1.length : Int), 0, ())

/-- value.Order -/
noncomputable def value_Order_b (self_value_Order : Ev.Val × Ev.Val × Unit → Option (Int × Unit)) (n : Nat) : Ev.Val × Ev.Val × Unit → Option (Int × Unit) :=
  fun (a1, a2, _) => 
  (cmp_Compare_int (a1.kind, a2.kind, ())).bind fun (y3, _) => 
  (bif (y3 : Int) != 0 then some (y3, ())
  else 
  (cmp_Compare_int (a1.n, a2.n, ())).bind fun (y4, _) => 
  (cmp_Compare_string (a1.s, a2.s, ())).bind fun (y5, _) => 
  (slices_CompareFunc_api_Value_api_Value_api_Value_api_Value_value_Order self_value_Order n (a1.l, a2.l, ())).bind fun (y6, _) => 
  (cmp_Or_int n (([y4, y5, y6] : List Int), ())).bind fun (y7, _) => some (y7, ()))

noncomputable def value_Order : Nat → Ev.Val × Ev.Val × Unit → Option (Int × Unit)
  | 0, _ => none
  | n + 1, x => value_Order_b (value_Order n) n x

/-- a round of a loop of value.Same -/
noncomputable def value_Same_s0 {ρ : Type} (self_value_Same : Ev.Val × Ev.Val × Unit → Option (Ev.Val × Unit)) (n : Nat) (rec : Int × Int × (Ev.Val × Unit) × (Ev.Val × Unit) × (Ev.Val × Unit) × (Ev.Val × Unit) × Unit → Option ρ) (kx : (Ev.Val × Unit) × (Ev.Val × Unit) × Unit → Option ρ) (kr : (Ev.Val × Unit) × Unit → Option ρ) : Int × Int × (Ev.Val × Unit) × (Ev.Val × Unit) × (Ev.Val × Unit) × (Ev.Val × Unit) × Unit → Option ρ :=
  fun (v7, v8, o9, o10, o11, o12, _) => 
  (bif decide ((v8 : Int) < v7) then 
  (ix o9.1.l v8).bind fun x16 => 
  (ix o10.1.l v8).bind fun x17 => 
  (self_value_Same ((Ev.Val.mk x16.kind x16.n x16.s x16.l), (Ev.Val.mk x17.kind x17.n x17.s x17.l), ())).bind fun (y18, _) => 
  (bif (y18.kind : Int) == 0 then rec (v7, IntKind.wrap .i64 (v8 + 1), ((Ev.Val.mk o9.1.kind o9.1.n o9.1.s o9.1.l), ()), ((Ev.Val.mk o10.1.kind o10.1.n o10.1.s o10.1.l), ()), ((Ev.Val.mk o11.1.kind o11.1.n o11.1.s o11.1.l), ()), ((Ev.Val.mk y18.kind y18.n y18.s y18.l), ()), ())
  else 
  (bif (y18.n : Int) == 0 then kr (((Ev.Val.mk y18.kind y18.n y18.s y18.l), ()), ())
  else rec (v7, IntKind.wrap .i64 (v8 + 1), ((Ev.Val.mk o9.1.kind o9.1.n o9.1.s o9.1.l), ()), ((Ev.Val.mk o10.1.kind o10.1.n o10.1.s o10.1.l), ()), ((Ev.Val.mk o11.1.kind o11.1.n o11.1.s o11.1.l), ()), ((Ev.Val.mk o12.1.kind o12.1.n o12.1.s o12.1.l), ()), ())))
  else kx (((Ev.Val.mk o11.1.kind o11.1.n o11.1.s o11.1.l), ()), ((Ev.Val.mk o12.1.kind o12.1.n o12.1.s o12.1.l), ()), ()))

/-- value.Same -/
noncomputable def value_Same_b (self_value_Same : Ev.Val × Ev.Val × Unit → Option (Ev.Val × Unit)) (n : Nat) : Ev.Val × Ev.Val × Unit → Option (Ev.Val × Unit) :=
  fun (a1, a2, _) => 
  (bif ((a1.kind : Int) == 0) || ((a2.kind : Int) == 0) then some ((Ev.Val.mk 0 0 (⟨#[]⟩ : ByteArray) ([] : List Ev.Val)), ())
  else 
  (bif ((a1.kind : Int) != 4) || ((a2.kind : Int) != 4) then 
  (value_Order n ((Ev.Val.mk a1.kind a1.n a1.s a1.l), (Ev.Val.mk a2.kind a2.n a2.s a2.l), ())).bind fun (y3, _) => 
  (value_truth ((y3 : Int) == 0, ())).bind fun (y4, _) => some ((Ev.Val.mk y4.kind y4.n y4.s y4.l), ())
  else 
  (bif ((a1.l.length : Int) : Int) != (a2.l.length : Int) then 
  (value_truth (false, ())).bind fun (y5, _) => some ((Ev.Val.mk y5.kind y5.n y5.s y5.l), ())
  else 
  (value_truth (true, ())).bind fun (y6, _) => 
  iterN (fun rc22 => value_Same_s0 self_value_Same n rc22 (fun (o19, o20, _) => some ((Ev.Val.mk o20.1.kind o20.1.n o20.1.s o20.1.l), ())) (fun (o21, _) => some ((Ev.Val.mk o21.1.kind o21.1.n o21.1.s o21.1.l), ()))) (n) ((a1.l.length : Int), 0, ((Ev.Val.mk a1.kind a1.n a1.s a1.l), ()), ((Ev.Val.mk a2.kind a2.n a2.s a2.l), ()), ((Ev.Val.mk 0 0 (⟨#[]⟩ : ByteArray) ([] : List Ev.Val)), ()), ((Ev.Val.mk y6.kind y6.n y6.s y6.l), ()), ()))))

noncomputable def value_Same : Nat → Ev.Val × Ev.Val × Unit → Option (Ev.Val × Unit)
  | 0, _ => none
  | n + 1, x => value_Same_b (value_Same n) n x

/-- espalierref.Truth -/
noncomputable def espalierref_Truth : Int × Unit → Option (Ev.Val × Unit) :=
  fun (a1, _) => 
  (bif (a1 : Int) == 2 then some ((Ev.Val.mk 0 0 (⟨#[]⟩ : ByteArray) ([] : List Ev.Val)), ())
  else some ((Ev.Val.mk 1 a1 (⟨#[]⟩ : ByteArray) ([] : List Ev.Val)), ()))

/-- a round of a loop of espalierref.SameOf -/
noncomputable def espalierref_SameOf_s0 {ρ : Type} (self_espalierref_SameOf : Ev.Val × Ev.Val × Unit → Option (Ev.Val × Unit)) (n : Nat) (rec : Bool × Int × Int × (Ev.Val × Unit) × (Ev.Val × Unit) × (Ev.Val × Unit) × Unit → Option ρ) (kx : Bool × (Ev.Val × Unit) × Unit → Option ρ) (kr : (Ev.Val × Unit) × Unit → Option ρ) : Bool × Int × Int × (Ev.Val × Unit) × (Ev.Val × Unit) × (Ev.Val × Unit) × Unit → Option ρ :=
  fun (v5, v6, v7, o8, o9, o10, _) => 
  (bif decide ((v7 : Int) < v6) then 
  (ix o8.1.l v7).bind fun x14 => 
  (ix o9.1.l v7).bind fun x15 => 
  (self_espalierref_SameOf ((Ev.Val.mk x14.kind x14.n x14.s x14.l), (Ev.Val.mk x15.kind x15.n x15.s x15.l), ())).bind fun (y16, _) => 
  (bif (y16.kind : Int) == 0 then rec (true, v6, IntKind.wrap .i64 (v7 + 1), ((Ev.Val.mk o8.1.kind o8.1.n o8.1.s o8.1.l), ()), ((Ev.Val.mk o9.1.kind o9.1.n o9.1.s o9.1.l), ()), ((Ev.Val.mk o10.1.kind o10.1.n o10.1.s o10.1.l), ()), ())
  else 
  (bif (y16.n : Int) == 0 then 
  (espalierref_Truth (0, ())).bind fun (y17, _) => kr (((Ev.Val.mk y17.kind y17.n y17.s y17.l), ()), ())
  else rec (v5, v6, IntKind.wrap .i64 (v7 + 1), ((Ev.Val.mk o8.1.kind o8.1.n o8.1.s o8.1.l), ()), ((Ev.Val.mk o9.1.kind o9.1.n o9.1.s o9.1.l), ()), ((Ev.Val.mk o10.1.kind o10.1.n o10.1.s o10.1.l), ()), ())))
  else kx (v5, ((Ev.Val.mk o10.1.kind o10.1.n o10.1.s o10.1.l), ()), ()))

/-- espalierref.SameOf -/
noncomputable def espalierref_SameOf_b (self_espalierref_SameOf : Ev.Val × Ev.Val × Unit → Option (Ev.Val × Unit)) (n : Nat) : Ev.Val × Ev.Val × Unit → Option (Ev.Val × Unit) :=
  fun (a1, a2, _) => 
  (bif ((a1.kind : Int) == 0) || ((a2.kind : Int) == 0) then 
  (espalierref_Truth (2, ())).bind fun (y3, _) => some ((Ev.Val.mk y3.kind y3.n y3.s y3.l), ())
  else 
  (bif ((a1.kind : Int) == 4) && ((a2.kind : Int) == 4) then 
  (bif ((a1.l.length : Int) : Int) != (a2.l.length : Int) then 
  (espalierref_Truth (0, ())).bind fun (y4, _) => some ((Ev.Val.mk y4.kind y4.n y4.s y4.l), ())
  else 
  iterN (fun rc23 => espalierref_SameOf_s0 self_espalierref_SameOf n rc23 (fun (v18, o19, _) => 
  (bif v18 then 
  (espalierref_Truth (2, ())).bind fun (y21, _) => some ((Ev.Val.mk y21.kind y21.n y21.s y21.l), ())
  else 
  (espalierref_Truth (1, ())).bind fun (y22, _) => some ((Ev.Val.mk y22.kind y22.n y22.s y22.l), ()))) (fun (o20, _) => some ((Ev.Val.mk o20.1.kind o20.1.n o20.1.s o20.1.l), ()))) (n) (false, (a1.l.length : Int), 0, ((Ev.Val.mk a1.kind a1.n a1.s a1.l), ()), ((Ev.Val.mk a2.kind a2.n a2.s a2.l), ()), ((Ev.Val.mk 0 0 (⟨#[]⟩ : ByteArray) ([] : List Ev.Val)), ()), ()))
  else 
  (espalierref_SameValue n ((Ev.Val.mk a1.kind a1.n a1.s a1.l), (Ev.Val.mk a2.kind a2.n a2.s a2.l), ())).bind fun (y24, _) => 
  (bif y24 then 
  (espalierref_Truth (1, ())).bind fun (y25, _) => some ((Ev.Val.mk y25.kind y25.n y25.s y25.l), ())
  else 
  (espalierref_Truth (0, ())).bind fun (y26, _) => some ((Ev.Val.mk y26.kind y26.n y26.s y26.l), ()))))

noncomputable def espalierref_SameOf : Nat → Ev.Val × Ev.Val × Unit → Option (Ev.Val × Unit)
  | 0, _ => none
  | n + 1, x => espalierref_SameOf_b (espalierref_SameOf n) n x

/-- value.Less -/
noncomputable def value_Less (n : Nat) : Ev.Val × Ev.Val × Unit → Option (Ev.Val × Unit) :=
  fun (a1, a2, _) => 
  (bif ((a1.kind : Int) != a2.kind) || (((a1.kind : Int) != 2) && ((a1.kind : Int) != 3)) then some ((Ev.Val.mk 0 0 (⟨#[]⟩ : ByteArray) ([] : List Ev.Val)), ())
  else 
  (value_Order n ((Ev.Val.mk a1.kind a1.n a1.s a1.l), (Ev.Val.mk a2.kind a2.n a2.s a2.l), ())).bind fun (y3, _) => 
  (value_truth (decide ((y3 : Int) < 0), ())).bind fun (y4, _) => some ((Ev.Val.mk y4.kind y4.n y4.s y4.l), ()))

/-- espalierref.LessOf -/
noncomputable def espalierref_LessOf (n : Nat) : Ev.Val × Ev.Val × Unit → Option (Ev.Val × Unit) :=
  fun (a1, a2, _) => 
  (bif ((a1.kind : Int) != a2.kind) || (((a1.kind : Int) != 2) && ((a1.kind : Int) != 3)) then 
  (espalierref_Truth (2, ())).bind fun (y3, _) => some ((Ev.Val.mk y3.kind y3.n y3.s y3.l), ())
  else 
  (espalierref_OrderOf n ((Ev.Val.mk a1.kind a1.n a1.s a1.l), (Ev.Val.mk a2.kind a2.n a2.s a2.l), ())).bind fun (y4, _) => 
  (bif decide ((y4 : Int) < 0) then 
  (espalierref_Truth (1, ())).bind fun (y5, _) => some ((Ev.Val.mk y5.kind y5.n y5.s y5.l), ())
  else 
  (espalierref_Truth (0, ())).bind fun (y6, _) => some ((Ev.Val.mk y6.kind y6.n y6.s y6.l), ())))

/-- espalierlaw.ValueOrder -/
noncomputable def espalierlaw_ValueOrder (n : Nat) : Ev.Val × Ev.Val × Unit → Option (Bool × Unit) :=
  fun (a1, a2, _) => 
  (espalierlaw_valued n (())).bind fun (y3, _) => 
  (bif y3 then 
  (value_Order n ((Ev.Val.mk a1.kind a1.n a1.s a1.l), (Ev.Val.mk a2.kind a2.n a2.s a2.l), ())).bind fun (y4, _) => 
  (espalierref_OrderOf n ((Ev.Val.mk a1.kind a1.n a1.s a1.l), (Ev.Val.mk a2.kind a2.n a2.s a2.l), ())).bind fun (y5, _) => 
  (bif (y4 : Int) == y5 then 
  (value_Same n ((Ev.Val.mk a1.kind a1.n a1.s a1.l), (Ev.Val.mk a2.kind a2.n a2.s a2.l), ())).bind fun (y6, _) => 
  (espalierref_SameOf n ((Ev.Val.mk a1.kind a1.n a1.s a1.l), (Ev.Val.mk a2.kind a2.n a2.s a2.l), ())).bind fun (y7, _) => 
  (espalierref_SameValue n ((Ev.Val.mk y6.kind y6.n y6.s y6.l), (Ev.Val.mk y7.kind y7.n y7.s y7.l), ())).bind fun (y8, _) => 
  (bif y8 then 
  (value_Less n ((Ev.Val.mk a1.kind a1.n a1.s a1.l), (Ev.Val.mk a2.kind a2.n a2.s a2.l), ())).bind fun (y9, _) => 
  (espalierref_LessOf n ((Ev.Val.mk a1.kind a1.n a1.s a1.l), (Ev.Val.mk a2.kind a2.n a2.s a2.l), ())).bind fun (y10, _) => 
  (espalierref_SameValue n ((Ev.Val.mk y9.kind y9.n y9.s y9.l), (Ev.Val.mk y10.kind y10.n y10.s y10.l), ())).bind fun (y11, _) => some (y11, ())
  else some (false, ()))
  else some (false, ()))
  else some (false, ()))

/-- espalierlaw.ValueOrders -/
noncomputable def espalierlaw_ValueOrders (n : Nat) : Ev.Val × Ev.Val × Ev.Val × Unit → Option (Bool × Unit) :=
  fun (a1, a2, a3, _) => 
  (value_Order n ((Ev.Val.mk a1.kind a1.n a1.s a1.l), (Ev.Val.mk a2.kind a2.n a2.s a2.l), ())).bind fun (y4, _) => 
  (value_Order n ((Ev.Val.mk a2.kind a2.n a2.s a2.l), (Ev.Val.mk a3.kind a3.n a3.s a3.l), ())).bind fun (y5, _) => 
  (value_Order n ((Ev.Val.mk a1.kind a1.n a1.s a1.l), (Ev.Val.mk a3.kind a3.n a3.s a3.l), ())).bind fun (y6, _) => 
  (espalierlaw_valued n (())).bind fun (y7, _) => 
  (bif !y7 then some (false, ())
  else 
  (value_Order n ((Ev.Val.mk a2.kind a2.n a2.s a2.l), (Ev.Val.mk a1.kind a1.n a1.s a1.l), ())).bind fun (y8, _) => 
  (bif (y8 : Int) != (IntKind.wrap .i64 (0 - y4)) then some (false, ())
  else 
  (value_Order n ((Ev.Val.mk a1.kind a1.n a1.s a1.l), (Ev.Val.mk a1.kind a1.n a1.s a1.l), ())).bind fun (y9, _) => 
  (bif (y9 : Int) != 0 then some (false, ())
  else 
  (bif ((((decide ((y4 : Int) ≤ 0)) && (decide ((y5 : Int) ≤ 0))) && (decide ((y6 : Int) > 0))) || (((decide ((y4 : Int) < 0)) && (decide ((y5 : Int) ≤ 0))) && (decide ((y6 : Int) ≥ 0)))) || (((decide ((y4 : Int) ≤ 0)) && (decide ((y5 : Int) < 0))) && (decide ((y6 : Int) ≥ 0))) then some (false, ())
  else 
  (value_Same n ((Ev.Val.mk a1.kind a1.n a1.s a1.l), (Ev.Val.mk a2.kind a2.n a2.s a2.l), ())).bind fun (y10, _) => 
  (value_Check n ((Ev.Val.mk a1.kind a1.n a1.s a1.l), ())).bind fun (y11, _) => 
  (bif (y11 : Int) != 0 then some (true, ())
  else 
  (value_Check n ((Ev.Val.mk a2.kind a2.n a2.s a2.l), ())).bind fun (y12, _) => some ((((y12 : Int) != 0) || ((y10.kind : Int) == 0)) || (((y10.n : Int) == 1) == ((y4 : Int) == 0)), ()))))))

/-- espalierlaw.ValueLess -/
noncomputable def espalierlaw_ValueLess (n : Nat) : Ev.Val × Ev.Val × Unit → Option (Bool × Unit) :=
  fun (a1, a2, _) => 
  (value_Less n ((Ev.Val.mk a1.kind a1.n a1.s a1.l), (Ev.Val.mk a2.kind a2.n a2.s a2.l), ())).bind fun (y6, _) => 
  (value_Less n ((Ev.Val.mk a2.kind a2.n a2.s a2.l), (Ev.Val.mk a1.kind a1.n a1.s a1.l), ())).bind fun (y7, _) => 
  (value_Same n ((Ev.Val.mk a1.kind a1.n a1.s a1.l), (Ev.Val.mk a2.kind a2.n a2.s a2.l), ())).bind fun (y8, _) => 
  (espalierlaw_valued n (())).bind fun (y9, _) => 
  (bif (!y9) || (!(((y6.kind : Int) == 0) == ((y7.kind : Int) == 0))) then some (false, ())
  else some (((y6.kind : Int) == 0) || ((IntKind.wrap .i64 ((IntKind.wrap .i64 (y6.n + y7.n)) + y8.n) : Int) == 1), ()))

/-- espalierlaw.ValueBack -/
noncomputable def espalierlaw_ValueBack (n : Nat) : Ev.Val × Unit → Option (Bool × Unit) :=
  fun (a1, _) => 
  (value_Print n ((Ev.Val.mk a1.kind a1.n a1.s a1.l), ())).bind fun (y2, y3, _) => 
  (espalierlaw_valued n (())).bind fun (y4, _) => 
  (bif (!y4) || ((y3 : Int) != 0) then 
  (espalierlaw_valued n (())).bind fun (y5, _) => some (y5, ())
  else 
  (value_Parse n (y2, ())).bind fun (y6, y7, y8, _) => 
  (bif ((y8 : Int) == 0) && ((y7 : Int) == 0) then 
  (espalierref_SameValue n ((Ev.Val.mk a1.kind a1.n a1.s a1.l), (Ev.Val.mk y6.kind y6.n y6.s y6.l), ())).bind fun (y9, _) => some (y9, ())
  else some (false, ())))

/-- math.bits.Mul64 -/
noncomputable def math_bits_Mul64 : Int × Int × Unit → Option (Int × Int × Unit) :=
  fun (a1, a2, _) => some (IntKind.wrap .u64 ((IntKind.wrap .u64 ((IntKind.wrap .u64 ((bshr .u64 a1 32) * (bshr .u64 a2 32))) + (bshr .u64 (IntKind.wrap .u64 ((IntKind.wrap .u64 ((bshr .u64 a1 32) * (band .u64 a2 4294967295))) + (bshr .u64 (IntKind.wrap .u64 ((band .u64 a1 4294967295) * (band .u64 a2 4294967295))) 32))) 32))) + (bshr .u64 (IntKind.wrap .u64 ((band .u64 (IntKind.wrap .u64 ((IntKind.wrap .u64 ((bshr .u64 a1 32) * (band .u64 a2 4294967295))) + (bshr .u64 (IntKind.wrap .u64 ((band .u64 a1 4294967295) * (band .u64 a2 4294967295))) 32))) 4294967295) + (IntKind.wrap .u64 ((band .u64 a1 4294967295) * (bshr .u64 a2 32))))) 32)), IntKind.wrap .u64 (a1 * a2), ())

/-- value.mul$1 -/
noncomputable def value_mul_1 : Int × Unit → Option (Int × Unit) :=
  fun (a1, _) => 
  (bif decide ((a1 : Int) < 0) then some (IntKind.wrap .u64 (0 - (IntKind.wrap .u64 (a1))), ())
  else some (IntKind.wrap .u64 (a1), ()))

/-- value.mul -/
noncomputable def value_mul : Int × Int × Unit → Option (Int × Bool × Unit) :=
  fun (a1, a2, _) => 
  (value_mul_1 (a1, ())).bind fun (y3, _) => 
  (value_mul_1 (a2, ())).bind fun (y4, _) => 
  (math_bits_Mul64 (y3, y4, ())).bind fun (y5, y6, _) => 
  (bif (((y5 : Int) != 0) || (decide ((y6 : Int) > 9223372036854775808))) || (((y6 : Int) == 9223372036854775808) && (!(!((decide ((a1 : Int) < 0)) == (decide ((a2 : Int) < 0)))))) then some (0, false, ())
  else 
  (bif !((decide ((a1 : Int) < 0)) == (decide ((a2 : Int) < 0))) then some (IntKind.wrap .i64 (IntKind.wrap .u64 (0 - y6)), true, ())
  else some (IntKind.wrap .i64 (y6), true, ())))

/-- a round of a loop of value.Copy -/
noncomputable def value_Copy_s0 {ρ : Type} (self_value_Copy : Ev.Val × Unit → Option (Ev.Val × Unit)) (n : Nat) (rec : (List Ev.Val) × Int × Int × (Int × Int × ByteArray × Unit) × (Ev.Val × Unit) × (List Ev.Val) × Unit → Option ρ) (kx : (Int × Int × ByteArray × Unit) × (Ev.Val × Unit) × (List Ev.Val) × Unit → Option ρ) (kr : Unit → Option ρ) : (List Ev.Val) × Int × Int × (Int × Int × ByteArray × Unit) × (Ev.Val × Unit) × (List Ev.Val) × Unit → Option ρ :=
  fun (v2, v3, v4, o5, o6, o7, _) => 
  (bif decide ((v4 : Int) < v3) then 
  (ix v2 v4).bind fun x8 => 
  (self_value_Copy ((Ev.Val.mk x8.kind x8.n x8.s x8.l), ())).bind fun (y10, _) => 
  ck (room (o7 ++ ([(Ev.Val.mk y10.kind y10.n y10.s y10.l)] : List Ev.Val)).length 56) (rec (v2, v3, IntKind.wrap .i64 (v4 + 1), (o5.1, o5.2.1, o5.2.2.1, ()), ((Ev.Val.mk o6.1.kind o6.1.n o6.1.s o6.1.l), ()), o7 ++ ([(Ev.Val.mk y10.kind y10.n y10.s y10.l)] : List Ev.Val), ()))
  else kx ((o5.1, o5.2.1, o5.2.2.1, ()), ((Ev.Val.mk o6.1.kind o6.1.n o6.1.s o6.1.l), ()), o7, ()))

noncomputable def F_value_Copy_s0 {ρ : Type} (self_value_Copy : Ev.Val × Unit → Option (Ev.Val × Unit)) (n : Nat) (kr : Unit → Option ρ) : Int → Ev.Val → ((Int × Int × ByteArray × Unit) × (Ev.Val × Unit) × (List Ev.Val) × Unit) → (((Int × Int × ByteArray × Unit) × (Ev.Val × Unit) × (List Ev.Val) × Unit) → Option ρ) → Option ρ :=
  fun v4 x8 (o5, o6, o7, _) rec =>  
  (self_value_Copy ((Ev.Val.mk x8.kind x8.n x8.s x8.l), ())).bind fun (y10, _) => 
  ck (room (o7 ++ ([(Ev.Val.mk y10.kind y10.n y10.s y10.l)] : List Ev.Val)).length 56) (rec ((o5.1, o5.2.1, o5.2.2.1, ()), ((Ev.Val.mk o6.1.kind o6.1.n o6.1.s o6.1.l), ()), o7 ++ ([(Ev.Val.mk y10.kind y10.n y10.s y10.l)] : List Ev.Val), ()))

theorem R_value_Copy_s0 {ρ : Type} (self_value_Copy : Ev.Val × Unit → Option (Ev.Val × Unit)) (n : Nat) (kx : (Int × Int × ByteArray × Unit) × (Ev.Val × Unit) × (List Ev.Val) × Unit → Option ρ) (kr : Unit → Option ρ) (l : List Ev.Val) (fuel : Nat) (o5 : Int × Int × ByteArray × Unit) (o6 : Ev.Val × Unit) (o7 : List Ev.Val) (hl : l.length ≤ 9223372036854775807) (hf : l.length < fuel) :
    iterN (fun rc => value_Copy_s0 self_value_Copy n rc kx kr) fuel (l, (l.length : Int), 0, o5, o6, o7, ()) = foldK (F_value_Copy_s0 self_value_Copy n kr) (fun (o5, o6, o7, _) => kx ((o5.1, o5.2.1, o5.2.2.1, ()), ((Ev.Val.mk o6.1.kind o6.1.n o6.1.s o6.1.l), ()), o7, ())) 0 l (o5, o6, o7, ()) :=
  range_listM l (fun i (o5, o6, o7, _) => (l, (l.length : Int), i, o5, o6, o7, ())) _ _ _ (fun rec i s => rfl) hl fuel (o5, o6, o7, ()) hf

/-- value.Copy -/
noncomputable def value_Copy_b (self_value_Copy : Ev.Val × Unit → Option (Ev.Val × Unit)) (n : Nat) : Ev.Val × Unit → Option (Ev.Val × Unit) :=
  fun (a1, _) => 
  iterN (fun rc14 => value_Copy_s0 self_value_Copy n rc14 (fun (o11, o12, o13, _) => some ((Ev.Val.mk o11.1 o11.2.1 o11.2.2.1 o13), ())) (fun (_) => none)) (n) (a1.l, (a1.l.length : Int), 0, (a1.kind, a1.n, a1.s, ()), ((Ev.Val.mk 0 0 (⟨#[]⟩ : ByteArray) ([] : List Ev.Val)), ()), ([] : List Ev.Val), ())

noncomputable def value_Copy : Nat → Ev.Val × Unit → Option (Ev.Val × Unit)
  | 0, _ => none
  | n + 1, x => value_Copy_b (value_Copy n) n x

/-- value.add -/
noncomputable def value_add : Int × Int × Unit → Option (Int × Bool × Unit) :=
  fun (a1, a2, _) => some (IntKind.wrap .i64 (a1 + a2), (decide ((IntKind.wrap .i64 (a1 + a2) : Int) > a1)) == (decide ((a2 : Int) > 0)), ())

/-- value.sub -/
noncomputable def value_sub : Int × Int × Unit → Option (Int × Bool × Unit) :=
  fun (a1, a2, _) => some (IntKind.wrap .i64 (a1 - a2), (decide ((IntKind.wrap .i64 (a1 - a2) : Int) < a1)) == (decide ((a2 : Int) > 0)), ())

/-- value.Reckon -/
noncomputable def value_Reckon (n : Nat) : ByteArray × Ev.Val × Ev.Val × Unit → Option (Ev.Val × Int × Unit) :=
  fun (a1, a2, a3, _) => 
  (bif seq a1 (⟨#[43]⟩ : ByteArray) then 
  (bif ((a2.kind : Int) == 0) || ((a3.kind : Int) == 0) then some ((Ev.Val.mk 0 0 (⟨#[]⟩ : ByteArray) ([] : List Ev.Val)), 0, ())
  else 
  (bif ((a2.kind : Int) == 2) && ((a3.kind : Int) == 2) then 
  (value_add (a2.n, a3.n, ())).bind fun (y4, y5, _) => 
  (bif !y5 then some ((Ev.Val.mk 0 0 (⟨#[]⟩ : ByteArray) ([] : List Ev.Val)), 4, ())
  else some ((Ev.Val.mk 2 y4 (⟨#[]⟩ : ByteArray) ([] : List Ev.Val)), 0, ()))
  else 
  (bif ((seq a1 (⟨#[43]⟩ : ByteArray)) && ((a2.kind : Int) == 3)) && ((a3.kind : Int) == 3) then 
  (bif decide ((IntKind.wrap .i64 ((a2.s.size : Int) + (a3.s.size : Int)) : Int) > 4000) then some ((Ev.Val.mk 0 0 (⟨#[]⟩ : ByteArray) ([] : List Ev.Val)), 2, ())
  else 
  (cat? a2.s a3.s).bind fun s6 => some ((Ev.Val.mk 3 0 s6 ([] : List Ev.Val)), 0, ()))
  else 
  (bif ((seq a1 (⟨#[43]⟩ : ByteArray)) && ((a2.kind : Int) == 4)) && ((a3.kind : Int) == 4) then 
  (bif decide ((IntKind.wrap .i64 ((a2.l.length : Int) + (a3.l.length : Int)) : Int) > 30) then some ((Ev.Val.mk 0 0 (⟨#[]⟩ : ByteArray) ([] : List Ev.Val)), 2, ())
  else 
  (value_Copy n ((Ev.Val.mk a2.kind a2.n a2.s a2.l), ())).bind fun (y8, _) => 
  (value_Copy n ((Ev.Val.mk a3.kind a3.n a3.s a3.l), ())).bind fun (y9, _) => none)
  else some ((Ev.Val.mk 0 0 (⟨#[]⟩ : ByteArray) ([] : List Ev.Val)), 3, ())))))
  else 
  (bif seq a1 (⟨#[45]⟩ : ByteArray) then 
  (bif ((a2.kind : Int) == 0) || ((a3.kind : Int) == 0) then some ((Ev.Val.mk 0 0 (⟨#[]⟩ : ByteArray) ([] : List Ev.Val)), 0, ())
  else 
  (bif ((a2.kind : Int) == 2) && ((a3.kind : Int) == 2) then 
  (value_sub (a2.n, a3.n, ())).bind fun (y10, y11, _) => 
  (bif !y11 then some ((Ev.Val.mk 0 0 (⟨#[]⟩ : ByteArray) ([] : List Ev.Val)), 4, ())
  else some ((Ev.Val.mk 2 y10 (⟨#[]⟩ : ByteArray) ([] : List Ev.Val)), 0, ()))
  else 
  (bif ((seq a1 (⟨#[43]⟩ : ByteArray)) && ((a2.kind : Int) == 3)) && ((a3.kind : Int) == 3) then 
  (bif decide ((IntKind.wrap .i64 ((a2.s.size : Int) + (a3.s.size : Int)) : Int) > 4000) then some ((Ev.Val.mk 0 0 (⟨#[]⟩ : ByteArray) ([] : List Ev.Val)), 2, ())
  else 
  (cat? a2.s a3.s).bind fun s12 => some ((Ev.Val.mk 3 0 s12 ([] : List Ev.Val)), 0, ()))
  else 
  (bif ((seq a1 (⟨#[43]⟩ : ByteArray)) && ((a2.kind : Int) == 4)) && ((a3.kind : Int) == 4) then 
  (bif decide ((IntKind.wrap .i64 ((a2.l.length : Int) + (a3.l.length : Int)) : Int) > 30) then some ((Ev.Val.mk 0 0 (⟨#[]⟩ : ByteArray) ([] : List Ev.Val)), 2, ())
  else 
  (value_Copy n ((Ev.Val.mk a2.kind a2.n a2.s a2.l), ())).bind fun (y14, _) => 
  (value_Copy n ((Ev.Val.mk a3.kind a3.n a3.s a3.l), ())).bind fun (y15, _) => none)
  else some ((Ev.Val.mk 0 0 (⟨#[]⟩ : ByteArray) ([] : List Ev.Val)), 3, ())))))
  else 
  (bif seq a1 (⟨#[42]⟩ : ByteArray) then 
  (bif ((a2.kind : Int) == 0) || ((a3.kind : Int) == 0) then some ((Ev.Val.mk 0 0 (⟨#[]⟩ : ByteArray) ([] : List Ev.Val)), 0, ())
  else 
  (bif ((a2.kind : Int) == 2) && ((a3.kind : Int) == 2) then 
  (value_mul (a2.n, a3.n, ())).bind fun (y16, y17, _) => 
  (bif !y17 then some ((Ev.Val.mk 0 0 (⟨#[]⟩ : ByteArray) ([] : List Ev.Val)), 4, ())
  else some ((Ev.Val.mk 2 y16 (⟨#[]⟩ : ByteArray) ([] : List Ev.Val)), 0, ()))
  else 
  (bif ((seq a1 (⟨#[43]⟩ : ByteArray)) && ((a2.kind : Int) == 3)) && ((a3.kind : Int) == 3) then 
  (bif decide ((IntKind.wrap .i64 ((a2.s.size : Int) + (a3.s.size : Int)) : Int) > 4000) then some ((Ev.Val.mk 0 0 (⟨#[]⟩ : ByteArray) ([] : List Ev.Val)), 2, ())
  else 
  (cat? a2.s a3.s).bind fun s18 => some ((Ev.Val.mk 3 0 s18 ([] : List Ev.Val)), 0, ()))
  else 
  (bif ((seq a1 (⟨#[43]⟩ : ByteArray)) && ((a2.kind : Int) == 4)) && ((a3.kind : Int) == 4) then 
  (bif decide ((IntKind.wrap .i64 ((a2.l.length : Int) + (a3.l.length : Int)) : Int) > 30) then some ((Ev.Val.mk 0 0 (⟨#[]⟩ : ByteArray) ([] : List Ev.Val)), 2, ())
  else 
  (value_Copy n ((Ev.Val.mk a2.kind a2.n a2.s a2.l), ())).bind fun (y20, _) => 
  (value_Copy n ((Ev.Val.mk a3.kind a3.n a3.s a3.l), ())).bind fun (y21, _) => none)
  else some ((Ev.Val.mk 0 0 (⟨#[]⟩ : ByteArray) ([] : List Ev.Val)), 3, ())))))
  else some ((Ev.Val.mk 0 0 (⟨#[]⟩ : ByteArray) ([] : List Ev.Val)), 5, ()))))

/-- espalierlaw.ValueRing -/
noncomputable def espalierlaw_ValueRing (n : Nat) : Int × Int × Int × Unit → Option (Bool × Unit) :=
  fun (a1, a2, a3, _) => 
  (espalierlaw_num (a1, ())).bind fun (y4, _) => 
  (espalierlaw_num (a2, ())).bind fun (y5, _) => 
  (espalierlaw_num (a3, ())).bind fun (y6, _) => 
  (value_Reckon n ((⟨#[43]⟩ : ByteArray), (Ev.Val.mk y4.kind y4.n y4.s y4.l), (Ev.Val.mk y5.kind y5.n y5.s y5.l), ())).bind fun (y7, y8, _) => 
  (value_Reckon n ((⟨#[43]⟩ : ByteArray), (Ev.Val.mk y5.kind y5.n y5.s y5.l), (Ev.Val.mk y4.kind y4.n y4.s y4.l), ())).bind fun (y9, y10, _) => 
  (espalierlaw_valued n (())).bind fun (y11, _) => 
  (bif (!y11) || ((y8 : Int) != y10) then some (false, ())
  else 
  (espalierref_SameValue n ((Ev.Val.mk y7.kind y7.n y7.s y7.l), (Ev.Val.mk y9.kind y9.n y9.s y9.l), ())).bind fun (y12, _) => 
  (bif !y12 then some (false, ())
  else 
  (value_Reckon n ((⟨#[42]⟩ : ByteArray), (Ev.Val.mk y7.kind y7.n y7.s y7.l), (Ev.Val.mk y6.kind y6.n y6.s y6.l), ())).bind fun (y13, y14, _) => 
  (value_Reckon n ((⟨#[42]⟩ : ByteArray), (Ev.Val.mk y4.kind y4.n y4.s y4.l), (Ev.Val.mk y6.kind y6.n y6.s y6.l), ())).bind fun (y15, y16, _) => 
  (value_Reckon n ((⟨#[42]⟩ : ByteArray), (Ev.Val.mk y5.kind y5.n y5.s y5.l), (Ev.Val.mk y6.kind y6.n y6.s y6.l), ())).bind fun (y17, y18, _) => 
  (value_Reckon n ((⟨#[43]⟩ : ByteArray), (Ev.Val.mk y15.kind y15.n y15.s y15.l), (Ev.Val.mk y17.kind y17.n y17.s y17.l), ())).bind fun (y19, y20, _) => 
  (bif (((((y7.kind : Int) == 0) || ((y14 : Int) != 0)) || ((y16 : Int) != 0)) || ((y18 : Int) != 0)) || ((y20 : Int) != 0) then some (true, ())
  else 
  (value_Reckon n ((⟨#[45]⟩ : ByteArray), (Ev.Val.mk y19.kind y19.n y19.s y19.l), (Ev.Val.mk y17.kind y17.n y17.s y17.l), ())).bind fun (y21, y22, _) => 
  (espalierref_SameValue n ((Ev.Val.mk y13.kind y13.n y13.s y13.l), (Ev.Val.mk y19.kind y19.n y19.s y19.l), ())).bind fun (y23, _) => 
  (bif y23 && ((y22 : Int) == 0) then 
  (espalierref_SameValue n ((Ev.Val.mk y21.kind y21.n y21.s y21.l), (Ev.Val.mk y15.kind y15.n y15.s y15.l), ())).bind fun (y24, _) => some (y24, ())
  else some (false, ())))))

end Pure

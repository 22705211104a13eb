/- Plain functions that compute what functions of the program compute (written by gen.py). -/
import Derived.Test.YtlheengcpaepnaaDoorEvLib
import Derived.Test.YtlheengcpaepnaaDoorPRange
import Derived.Test.YtlheengcpaepnaaDoorEvBuild2
import Derived.Test.YtlheengcpaepnaaDoorEvBuild3
namespace Pure
open Esp Ev Go
set_option linter.unusedSimpArgs false
set_option linter.unusedVariables false

/-- espalierlaw.num -/
noncomputable def espalierlaw_num : Int × Unit → Option (Ev.Val × Unit) :=
  fun (a1, _) => some ((Ev.Val.mk 2 a1 (⟨#[]⟩ : ByteArray) ([] : List Ev.Val)), ())

/-- espalierlaw.str -/
noncomputable def espalierlaw_str : ByteArray × Unit → Option (Ev.Val × Unit) :=
  fun (a1, _) => some ((Ev.Val.mk 3 0 a1 ([] : List Ev.Val)), ())

/-- espalierlaw.list -/
noncomputable def espalierlaw_list : (List Ev.Val) × Unit → Option (Ev.Val × Unit) :=
  fun (a1, _) => some ((Ev.Val.mk 4 0 (⟨#[]⟩ : ByteArray) a1), ())

/-- a round of a loop of value.check -/
noncomputable def value_check_s1 {ρ : Type} (self_value_check : Ev.Val × Int × Unit → Option (Int × Unit)) (n : Nat) (rec : Int × (List Ev.Val) × Int × Int × (Ev.Val × Unit) × Unit → Option ρ) (kx : (Ev.Val × Unit) × Unit → Option ρ) (kr : Int × Unit → Option ρ) : Int × (List Ev.Val) × Int × Int × (Ev.Val × Unit) × Unit → Option ρ :=
  fun (v4, v5, v6, v7, o8, _) => 
  (bif decide ((v7 : Int) < v6) then 
  (ix v5 v7).bind fun x9 => 
  (self_value_check ((Ev.Val.mk x9.kind x9.n x9.s x9.l), IntKind.wrap .i64 (v4 + 1), ())).bind fun (y10, _) => 
  (bif (y10 : Int) != 0 then kr (y10, ())
  else rec (v4, v5, v6, IntKind.wrap .i64 (v7 + 1), ((Ev.Val.mk o8.1.kind o8.1.n o8.1.s o8.1.l), ()), ()))
  else kx (((Ev.Val.mk o8.1.kind o8.1.n o8.1.s o8.1.l), ()), ()))

noncomputable def F_value_check_s1 {ρ : Type} (self_value_check : Ev.Val × Int × Unit → Option (Int × Unit)) (n : Nat) (kr : Int × Unit → Option ρ) : Int → Ev.Val → (Int × (Ev.Val × Unit) × Unit) → ((Int × (Ev.Val × Unit) × Unit) → Option ρ) → Option ρ :=
  fun v7 x9 (v4, o8, _) rec =>  
  (self_value_check ((Ev.Val.mk x9.kind x9.n x9.s x9.l), IntKind.wrap .i64 (v4 + 1), ())).bind fun (y10, _) => 
  (bif (y10 : Int) != 0 then kr (y10, ())
  else rec (v4, ((Ev.Val.mk o8.1.kind o8.1.n o8.1.s o8.1.l), ()), ()))

theorem R_value_check_s1 {ρ : Type} (self_value_check : Ev.Val × Int × Unit → Option (Int × Unit)) (n : Nat) (kx : (Ev.Val × Unit) × Unit → Option ρ) (kr : Int × Unit → Option ρ) (l : List Ev.Val) (fuel : Nat) (v4 : Int) (o8 : Ev.Val × Unit) (hl : l.length ≤ 9223372036854775807) (hf : l.length < fuel) :
    iterN (fun rc => value_check_s1 self_value_check n rc kx kr) fuel (v4, l, (l.length : Int), 0, o8, ()) = foldK (F_value_check_s1 self_value_check n kr) (fun (v4, o8, _) => kx (((Ev.Val.mk o8.1.kind o8.1.n o8.1.s o8.1.l), ()), ())) 0 l (v4, o8, ()) :=
  range_listM l (fun i (v4, o8, _) => (v4, l, (l.length : Int), i, o8, ())) _ _ _ (fun rec i s => rfl) hl fuel (v4, o8, ()) hf

/-- value.check -/
noncomputable def value_check_b (self_value_check : Ev.Val × Int × Unit → Option (Int × Unit)) (n : Nat) : Ev.Val × Int × Unit → Option (Int × Unit) :=
  fun (a1, a2, _) => 
  (bif (a1.kind : Int) == 0 then 
  (bif !((((a1.n : Int) == 0) && (seq a1.s (⟨#[]⟩ : ByteArray))) && (((a1.l.length : Int) : Int) == 0)) then some (6, ())
  else some (0, ()))
  else 
  (bif (a1.kind : Int) == 1 then 
  (bif !(((((a1.n : Int) == 0) || ((a1.n : Int) == 1)) && (seq a1.s (⟨#[]⟩ : ByteArray))) && (((a1.l.length : Int) : Int) == 0)) then some (6, ())
  else some (0, ()))
  else 
  (bif (a1.kind : Int) == 2 then 
  (bif !((seq a1.s (⟨#[]⟩ : ByteArray)) && (((a1.l.length : Int) : Int) == 0)) then some (6, ())
  else some (0, ()))
  else 
  (bif (a1.kind : Int) == 3 then 
  (bif decide (((a1.s.size : Int) : Int) > 4000) then some (2, ())
  else 
  (bif (a1.n : Int) == 0 then 
  (validN (a1.s, ())).bind fun (y3, _) => 
  (bif !(y3 && (((a1.l.length : Int) : Int) == 0)) then some (6, ())
  else some (0, ()))
  else some (6, ())))
  else 
  (bif (a1.kind : Int) == 4 then 
  (bif (decide (((a1.l.length : Int) : Int) > 30)) || (decide ((a2 : Int) > 6)) then some (2, ())
  else 
  iterN (fun rc13 => value_check_s1 self_value_check n rc13 (fun (o11, _) => 
  (bif !(((o11.1.n : Int) == 0) && (seq o11.1.s (⟨#[]⟩ : ByteArray))) then some (6, ())
  else some (0, ()))) (fun (v12, _) => some (v12, ()))) (n) (a2, a1.l, (a1.l.length : Int), 0, ((Ev.Val.mk a1.kind a1.n a1.s a1.l), ()), ()))
  else some (6, ()))))))

noncomputable def value_check : Nat → Ev.Val × Int × Unit → Option (Int × Unit)
  | 0, _ => none
  | n + 1, x => value_check_b (value_check n) n x

/-- value.Check -/
noncomputable def value_Check (n : Nat) : Ev.Val × Unit → Option (Int × Unit) :=
  fun (a1, _) => 
  (value_check n ((Ev.Val.mk a1.kind a1.n a1.s a1.l), 1, ())).bind fun (y2, _) => some (y2, ())

/-- (*strings.Builder).WriteString -/
noncomputable def pstrings_Builder_WriteString : ByteArray × Unit × (List Int) × Unit → Option (Int × Unit × (List Int) × Unit) :=
  fun (a1, o2, o3, _) => 
  (copyCheckN ((()), o3, ())).bind fun (o4, o5, _) => 
  ck (room (o5 ++ (bytesI a1)).length 1) (some ((a1.size : Int), (()), o5 ++ (bytesI a1), ()))

/-- internal.strconv.FormatBool -/
noncomputable def internal_strconv_FormatBool : Bool × Unit → Option (ByteArray × Unit) :=
  fun (a1, _) => 
  (bif a1 then some ((⟨#[116, 114, 117, 101]⟩ : ByteArray), ())
  else some ((⟨#[102, 97, 108, 115, 101]⟩ : ByteArray), ()))

/-- strconv.FormatBool -/
noncomputable def strconv_FormatBool : Bool × Unit → Option (ByteArray × Unit) :=
  fun (a1, _) => 
  (internal_strconv_FormatBool (a1, ())).bind fun (y2, _) => some (y2, ())

/-- (*strings.Builder).WriteByte -/
noncomputable def pstrings_Builder_WriteByte : Int × Unit × (List Int) × Unit → Option (Unit × (List Int) × Unit) :=
  fun (a1, o2, o3, _) => 
  (copyCheckN ((()), o3, ())).bind fun (o4, o5, _) => 
  ck (room (o5 ++ ([a1] : List Int)).length 1) (some ((()), o5 ++ ([a1] : List Int), ()))

/-- unicode.utf8.appendRuneNonASCII -/
noncomputable def unicode_utf8_appendRuneNonASCII : Int × (List Int) × Unit → Option ((List Int) × Unit) :=
  fun (a1, o2, _) => 
  (bif decide ((IntKind.wrap .u32 (a1) : Int) ≤ 2047) then 
  ck (room (o2 ++ ([bor .u8 192 (IntKind.wrap .u8 (bshr .i32 a1 6)), bor .u8 128 (band .u8 (IntKind.wrap .u8 (a1)) 63)] : List Int)).length 1) (some (o2 ++ ([bor .u8 192 (IntKind.wrap .u8 (bshr .i32 a1 6)), bor .u8 128 (band .u8 (IntKind.wrap .u8 (a1)) 63)] : List Int), ()))
  else 
  (bif decide ((IntKind.wrap .u32 (a1) : Int) < 55296) then 
  (bif decide ((IntKind.wrap .u32 (a1) : Int) < 55296) then 
  ck (room (o2 ++ ([bor .u8 224 (IntKind.wrap .u8 (bshr .i32 a1 12)), bor .u8 128 (band .u8 (IntKind.wrap .u8 (bshr .i32 a1 6)) 63), bor .u8 128 (band .u8 (IntKind.wrap .u8 (a1)) 63)] : List Int)).length 1) (some (o2 ++ ([bor .u8 224 (IntKind.wrap .u8 (bshr .i32 a1 12)), bor .u8 128 (band .u8 (IntKind.wrap .u8 (bshr .i32 a1 6)) 63), bor .u8 128 (band .u8 (IntKind.wrap .u8 (a1)) 63)] : List Int), ()))
  else 
  (bif (decide ((IntKind.wrap .u32 (a1) : Int) > 65535)) && (decide ((IntKind.wrap .u32 (a1) : Int) ≤ 1114111)) then 
  ck (room (o2 ++ ([bor .u8 240 (IntKind.wrap .u8 (bshr .i32 a1 18)), bor .u8 128 (band .u8 (IntKind.wrap .u8 (bshr .i32 a1 12)) 63), bor .u8 128 (band .u8 (IntKind.wrap .u8 (bshr .i32 a1 6)) 63), bor .u8 128 (band .u8 (IntKind.wrap .u8 (a1)) 63)] : List Int)).length 1) (some (o2 ++ ([bor .u8 240 (IntKind.wrap .u8 (bshr .i32 a1 18)), bor .u8 128 (band .u8 (IntKind.wrap .u8 (bshr .i32 a1 12)) 63), bor .u8 128 (band .u8 (IntKind.wrap .u8 (bshr .i32 a1 6)) 63), bor .u8 128 (band .u8 (IntKind.wrap .u8 (a1)) 63)] : List Int), ()))
  else 
  ck (room (o2 ++ ([239, 191, 189] : List Int)).length 1) (some (o2 ++ ([239, 191, 189] : List Int), ()))))
  else 
  (bif (decide ((57343 : Int) < (IntKind.wrap .u32 (a1)))) && (decide ((IntKind.wrap .u32 (a1) : Int) ≤ 65535)) then 
  ck (room (o2 ++ ([bor .u8 224 (IntKind.wrap .u8 (bshr .i32 a1 12)), bor .u8 128 (band .u8 (IntKind.wrap .u8 (bshr .i32 a1 6)) 63), bor .u8 128 (band .u8 (IntKind.wrap .u8 (a1)) 63)] : List Int)).length 1) (some (o2 ++ ([bor .u8 224 (IntKind.wrap .u8 (bshr .i32 a1 12)), bor .u8 128 (band .u8 (IntKind.wrap .u8 (bshr .i32 a1 6)) 63), bor .u8 128 (band .u8 (IntKind.wrap .u8 (a1)) 63)] : List Int), ()))
  else 
  (bif (decide ((IntKind.wrap .u32 (a1) : Int) > 65535)) && (decide ((IntKind.wrap .u32 (a1) : Int) ≤ 1114111)) then 
  ck (room (o2 ++ ([bor .u8 240 (IntKind.wrap .u8 (bshr .i32 a1 18)), bor .u8 128 (band .u8 (IntKind.wrap .u8 (bshr .i32 a1 12)) 63), bor .u8 128 (band .u8 (IntKind.wrap .u8 (bshr .i32 a1 6)) 63), bor .u8 128 (band .u8 (IntKind.wrap .u8 (a1)) 63)] : List Int)).length 1) (some (o2 ++ ([bor .u8 240 (IntKind.wrap .u8 (bshr .i32 a1 18)), bor .u8 128 (band .u8 (IntKind.wrap .u8 (bshr .i32 a1 12)) 63), bor .u8 128 (band .u8 (IntKind.wrap .u8 (bshr .i32 a1 6)) 63), bor .u8 128 (band .u8 (IntKind.wrap .u8 (a1)) 63)] : List Int), ()))
  else 
  ck (room (o2 ++ ([239, 191, 189] : List Int)).length 1) (some (o2 ++ ([239, 191, 189] : List Int), ()))))))

/-- unicode.utf8.AppendRune -/
noncomputable def unicode_utf8_AppendRune : Int × (List Int) × Unit → Option ((List Int) × Unit) :=
  fun (a1, o2, _) => 
  (bif decide ((IntKind.wrap .u32 (a1) : Int) ≤ 127) then 
  ck (room (o2 ++ ([IntKind.wrap .u8 (a1)] : List Int)).length 1) (some (o2 ++ ([IntKind.wrap .u8 (a1)] : List Int), ()))
  else 
  (unicode_utf8_appendRuneNonASCII (a1, o2, ())).bind fun (o3, _) => some (o3, ()))

/-- (*strings.Builder).WriteRune -/
noncomputable def pstrings_Builder_WriteRune : Int × Unit × (List Int) × Unit → Option (Int × Unit × (List Int) × Unit) :=
  fun (a1, o2, o3, _) => 
  (copyCheckN ((()), o3, ())).bind fun (o4, o5, _) => 
  (unicode_utf8_AppendRune (a1, o5, ())).bind fun (o6, _) => some (IntKind.wrap .i64 ((o6.length : Int) - (o5.length : Int)), (()), o6, ())

/-- a round of a loop of value.tell -/
noncomputable def value_tell_s1 {ρ : Type} (self_value_tell : Ev.Val × Unit × (List Int) × Unit → Option (Unit × (List Int) × Unit)) (n : Nat) (rec : (ByteArray × Nat) × Unit × (List Int) × Unit → Option ρ) (kx : Unit × (List Int) × Unit → Option ρ) (kr : Unit → Option ρ) : (ByteArray × Nat) × Unit × (List Int) × Unit → Option ρ :=
  fun (o17, o18, o19, _) => 
  (bif Nat.blt o17.2 o17.1.size then 
  (bif (((Utf8.decode o17.1 o17.2).1 : Int) : Int) == 39 then 
  (bif (((Utf8.decode o17.1 o17.2).1 : Int) : Int) == 39 then 
  (pstrings_Builder_WriteByte (92, (()), o19, ())).bind fun (o20, o21, _) => 
  (pstrings_Builder_WriteRune (((Utf8.decode o17.1 o17.2).1 : Int), (()), o21, ())).bind fun (y22, o23, o24, _) => rec ((o17.1, o17.2 + (Utf8.decode o17.1 o17.2).2), (()), o24, ())
  else 
  (bif (((Utf8.decode o17.1 o17.2).1 : Int) : Int) == 10 then 
  (pstrings_Builder_WriteByte (92, (()), o19, ())).bind fun (o25, o26, _) => 
  (pstrings_Builder_WriteRune (110, (()), o26, ())).bind fun (y27, o28, o29, _) => rec ((o17.1, o17.2 + (Utf8.decode o17.1 o17.2).2), (()), o29, ())
  else 
  (pstrings_Builder_WriteRune (((Utf8.decode o17.1 o17.2).1 : Int), (()), o19, ())).bind fun (y30, o31, o32, _) => rec ((o17.1, o17.2 + (Utf8.decode o17.1 o17.2).2), (()), o32, ())))
  else 
  (bif (((Utf8.decode o17.1 o17.2).1 : Int) : Int) == 92 then 
  (pstrings_Builder_WriteByte (92, (()), o19, ())).bind fun (o33, o34, _) => 
  (pstrings_Builder_WriteRune (((Utf8.decode o17.1 o17.2).1 : Int), (()), o34, ())).bind fun (y35, o36, o37, _) => rec ((o17.1, o17.2 + (Utf8.decode o17.1 o17.2).2), (()), o37, ())
  else 
  (bif (((Utf8.decode o17.1 o17.2).1 : Int) : Int) == 10 then 
  (pstrings_Builder_WriteByte (92, (()), o19, ())).bind fun (o38, o39, _) => 
  (pstrings_Builder_WriteRune (110, (()), o39, ())).bind fun (y40, o41, o42, _) => rec ((o17.1, o17.2 + (Utf8.decode o17.1 o17.2).2), (()), o42, ())
  else 
  (pstrings_Builder_WriteRune (((Utf8.decode o17.1 o17.2).1 : Int), (()), o19, ())).bind fun (y43, o44, o45, _) => rec ((o17.1, o17.2 + (Utf8.decode o17.1 o17.2).2), (()), o45, ()))))
  else kx ((()), o19, ()))

/-- a round of a loop of value.tell -/
noncomputable def value_tell_s4 {ρ : Type} (self_value_tell : Ev.Val × Unit × (List Int) × Unit → Option (Unit × (List Int) × Unit)) (n : Nat) (rec : (List Ev.Val) × Int × Int × Unit × (List Int) × Unit → Option ρ) (kx : Unit × (List Int) × Unit → Option ρ) (kr : Unit → Option ρ) : (List Ev.Val) × Int × Int × Unit × (List Int) × Unit → Option ρ :=
  fun (v53, v54, v55, o56, o57, _) => 
  (bif decide ((v55 : Int) < v54) then 
  (ix v53 v55).bind fun x58 => 
  (bif decide ((v55 : Int) > 0) then 
  (pstrings_Builder_WriteByte (44, (()), o57, ())).bind fun (o59, o60, _) => 
  (self_value_tell ((Ev.Val.mk x58.kind x58.n x58.s x58.l), (()), o60, ())).bind fun (o61, o62, _) => rec (v53, v54, IntKind.wrap .i64 (v55 + 1), (()), o62, ())
  else 
  (self_value_tell ((Ev.Val.mk x58.kind x58.n x58.s x58.l), (()), o57, ())).bind fun (o63, o64, _) => rec (v53, v54, IntKind.wrap .i64 (v55 + 1), (()), o64, ()))
  else kx ((()), o57, ()))

noncomputable def F_value_tell_s4 {ρ : Type} (self_value_tell : Ev.Val × Unit × (List Int) × Unit → Option (Unit × (List Int) × Unit)) (n : Nat) (kr : Unit → Option ρ) : Int → Ev.Val → (Unit × (List Int) × Unit) → ((Unit × (List Int) × Unit) → Option ρ) → Option ρ :=
  fun v55 x58 (o56, o57, _) rec =>  
  (bif decide ((v55 : Int) > 0) then 
  (pstrings_Builder_WriteByte (44, (()), o57, ())).bind fun (o59, o60, _) => 
  (self_value_tell ((Ev.Val.mk x58.kind x58.n x58.s x58.l), (()), o60, ())).bind fun (o61, o62, _) => rec ((()), o62, ())
  else 
  (self_value_tell ((Ev.Val.mk x58.kind x58.n x58.s x58.l), (()), o57, ())).bind fun (o63, o64, _) => rec ((()), o64, ()))

theorem R_value_tell_s4 {ρ : Type} (self_value_tell : Ev.Val × Unit × (List Int) × Unit → Option (Unit × (List Int) × Unit)) (n : Nat) (kx : Unit × (List Int) × Unit → Option ρ) (kr : Unit → Option ρ) (l : List Ev.Val) (fuel : Nat) (o56 : Unit) (o57 : List Int) (hl : l.length ≤ 9223372036854775807) (hf : l.length < fuel) :
    iterN (fun rc => value_tell_s4 self_value_tell n rc kx kr) fuel (l, (l.length : Int), 0, o56, o57, ()) = foldK (F_value_tell_s4 self_value_tell n kr) (fun (o56, o57, _) => kx ((()), o57, ())) 0 l (o56, o57, ()) :=
  range_listM l (fun i (o56, o57, _) => (l, (l.length : Int), i, o56, o57, ())) _ _ _ (fun rec i s => rfl) hl fuel (o56, o57, ()) hf

/-- value.tell -/
noncomputable def value_tell_b (self_value_tell : Ev.Val × Unit × (List Int) × Unit → Option (Unit × (List Int) × Unit)) (n : Nat) : Ev.Val × Unit × (List Int) × Unit → Option (Unit × (List Int) × Unit) :=
  fun (a1, o2, o3, _) => 
  (bif (a1.kind : Int) == 0 then 
  (pstrings_Builder_WriteString ((⟨#[110, 117, 108, 108]⟩ : ByteArray), (()), o3, ())).bind fun (y4, o5, o6, _) => some ((()), o6, ())
  else 
  (bif (a1.kind : Int) == 1 then 
  (strconv_FormatBool ((a1.n : Int) == 1, ())).bind fun (y7, _) => 
  (pstrings_Builder_WriteString (y7, (()), o3, ())).bind fun (y8, o9, o10, _) => some ((()), o10, ())
  else 
  (bif (a1.kind : Int) == 2 then 
  (itoaN (a1.n, ())).bind fun (y11, _) => 
  (pstrings_Builder_WriteString (y11, (()), o3, ())).bind fun (y12, o13, o14, _) => some ((()), o14, ())
  else 
  (bif (a1.kind : Int) == 3 then 
  (pstrings_Builder_WriteByte (39, (()), o3, ())).bind fun (o15, o16, _) => 
  iterN (fun rc50 => value_tell_s1 self_value_tell n rc50 (fun (o46, o47, _) => 
  (pstrings_Builder_WriteByte (39, (()), o47, ())).bind fun (o48, o49, _) => some ((()), o49, ())) (fun (_) => none)) (n) ((a1.s, 0), (()), o16, ())
  else 
  (bif (a1.kind : Int) == 4 then 
  (pstrings_Builder_WriteByte (91, (()), o3, ())).bind fun (o51, o52, _) => 
  iterN (fun rc69 => value_tell_s4 self_value_tell n rc69 (fun (o65, o66, _) => 
  (pstrings_Builder_WriteByte (93, (()), o66, ())).bind fun (o67, o68, _) => some ((()), o68, ())) (fun (_) => none)) (n) (a1.l, (a1.l.length : Int), 0, (()), o52, ())
  else some ((()), o3, ()))))))

noncomputable def value_tell : Nat → Ev.Val × Unit × (List Int) × Unit → Option (Unit × (List Int) × Unit)
  | 0, _ => none
  | n + 1, x => value_tell_b (value_tell n) n x

/-- (*strings.Builder).Len -/
noncomputable def pstrings_Builder_Len : Unit × (List Int) × Unit → Option (Int × Unit × (List Int) × Unit) :=
  fun (o1, o2, _) => some ((o2.length : Int), (()), o2, ())

/-- value.Print -/
noncomputable def value_Print (n : Nat) : Ev.Val × Unit → Option (ByteArray × Int × Unit) :=
  fun (a1, _) => 
  (value_Check n ((Ev.Val.mk a1.kind a1.n a1.s a1.l), ())).bind fun (y2, _) => 
  (bif (y2 : Int) != 0 then some ((⟨#[]⟩ : ByteArray), y2, ())
  else 
  (value_tell n ((Ev.Val.mk a1.kind a1.n a1.s a1.l), (()), ([] : List Int), ())).bind fun (o3, o4, _) => 
  (pstrings_Builder_Len ((()), o4, ())).bind fun (y5, o6, o7, _) => 
  (bif decide ((y5 : Int) > 4000) then some ((⟨#[]⟩ : ByteArray), 2, ())
  else 
  (stringN ((()), o7, ())).bind fun (y8, _) => some (y8, 0, ())))

/-- internal.stringslite.HasPrefix -/
noncomputable def internal_stringslite_HasPrefix : ByteArray × ByteArray × Unit → Option (Bool × Unit) :=
  fun (a1, a2, _) => 
  (bif decide (((a1.size : Int) : Int) ≥ (a2.size : Int)) then 
  (ssl a1 0 (a2.size : Int)).bind fun s3 => some (seq s3 a2, ())
  else some (false, ()))

/-- strings.HasPrefix -/
noncomputable def strings_HasPrefix : ByteArray × ByteArray × Unit → Option (Bool × Unit) :=
  fun (a1, a2, _) => 
  (internal_stringslite_HasPrefix (a1, a2, ())).bind fun (y3, _) => some (y3, ())

/-- (*value.reader).eat -/
noncomputable def pvalue_reader_eat : ByteArray × (ByteArray × Int × Unit) × Unit → Option (Bool × (ByteArray × Int × Unit) × Unit) :=
  fun (a1, o2, _) => 
  (ssl o2.1 o2.2.1 (o2.1.size : Int)).bind fun s4 => 
  (strings_HasPrefix (s4, a1, ())).bind fun (y5, _) => 
  (bif !y5 then some (false, (o2.1, o2.2.1, ()), ())
  else some (true, (o2.1, IntKind.wrap .i64 (o2.2.1 + (a1.size : Int)), ()), ()))

/-- value.truth -/
noncomputable def value_truth : Bool × Unit → Option (Ev.Val × Unit) :=
  fun (a1, _) => 
  (bif a1 then some ((Ev.Val.mk 1 1 (⟨#[]⟩ : ByteArray) ([] : List Ev.Val)), ())
  else some ((Ev.Val.mk 1 0 (⟨#[]⟩ : ByteArray) ([] : List Ev.Val)), ()))

/-- a round of a loop of (*value.reader).text -/
noncomputable def pvalue_reader_text_s0 {ρ : Type} (n : Nat) (rec : Unit × (List Int) × (ByteArray × Int × Unit) × Unit → Option ρ) (kx : Unit → Option ρ) (kr : ByteArray × (ByteArray × Int × Unit) × Unit → Option ρ) : Unit × (List Int) × (ByteArray × Int × Unit) × Unit → Option ρ :=
  fun (o2, o3, o4, _) => 
  (pvalue_reader_eat ((⟨#[39]⟩ : ByteArray), (o4.1, o4.2.1, ()), ())).bind fun (y5, o6, _) => 
  (bif y5 then 
  (stringN ((()), o3, ())).bind fun (y7, _) => kr (y7, (o6.1, o6.2.1, ()), ())
  else 
  (pvalue_reader_eat ((⟨#[92, 110]⟩ : ByteArray), (o6.1, o6.2.1, ()), ())).bind fun (y8, o9, _) => 
  (bif y8 then 
  (pstrings_Builder_WriteByte (10, (()), o3, ())).bind fun (o10, o11, _) => rec ((()), o11, (o9.1, o9.2.1, ()), ())
  else 
  (pvalue_reader_eat ((⟨#[92, 39]⟩ : ByteArray), (o9.1, o9.2.1, ()), ())).bind fun (y12, o13, _) => 
  (bif y12 then 
  (pstrings_Builder_WriteByte (39, (()), o3, ())).bind fun (o14, o15, _) => rec ((()), o15, (o13.1, o13.2.1, ()), ())
  else 
  (pvalue_reader_eat ((⟨#[92, 92]⟩ : ByteArray), (o13.1, o13.2.1, ()), ())).bind fun (y16, o17, _) => 
  (bif y16 then 
  (pstrings_Builder_WriteByte (92, (()), o3, ())).bind fun (o18, o19, _) => rec ((()), o19, (o17.1, o17.2.1, ()), ())
  else 
  (ssl o17.1 o17.2.1 (o17.1.size : Int)).bind fun s21 => 
  (decodeN (s21, ())).bind fun (y22, y23, _) => 
  (bif ((((y23 : Int) == 0) || (((y22 : Int) == 65533) && ((y23 : Int) == 1))) || ((y22 : Int) == 92)) || ((y22 : Int) == 10) then none
  else 
  (pstrings_Builder_WriteRune (y22, (()), o3, ())).bind fun (y24, o25, o26, _) => rec ((()), o26, (o17.1, IntKind.wrap .i64 (o17.2.1 + y23), ()), ()))))))

/-- (*value.reader).text -/
noncomputable def pvalue_reader_text (n : Nat) : (ByteArray × Int × Unit) × Unit → Option (ByteArray × (ByteArray × Int × Unit) × Unit) :=
  fun (o1, _) => 
  iterN (fun rc29 => pvalue_reader_text_s0 n rc29 (fun (_) => none) (fun (v27, o28, _) => some (v27, (o28.1, o28.2.1, ()), ()))) (n) ((()), ([] : List Int), (o1.1, o1.2.1, ()), ())

/-- a round of a loop of (*value.reader).value -/
noncomputable def pvalue_reader_value_s1 {ρ : Type} (self_pvalue_reader_value : Int × (ByteArray × Int × Unit) × Unit → Option (Ev.Val × (ByteArray × Int × Unit) × Unit)) (n : Nat) (rec : Int × (Ev.Val × Unit) × (Int × Int × ByteArray × Unit) × (List Ev.Val) × (ByteArray × Int × Unit) × Unit → Option ρ) (kx : Unit → Option ρ) (kr : (Int × Int × ByteArray × Unit) × (List Ev.Val) × (ByteArray × Int × Unit) × Unit → Option ρ) : Int × (Ev.Val × Unit) × (Int × Int × ByteArray × Unit) × (List Ev.Val) × (ByteArray × Int × Unit) × Unit → Option ρ :=
  fun (v19, o20, o21, o22, o23, _) => 
  (self_pvalue_reader_value (IntKind.wrap .i64 (v19 + 1), (o23.1, o23.2.1, ()), ())).bind fun (y25, o26, _) => 
  ck (room (o22 ++ ([(Ev.Val.mk y25.kind y25.n y25.s y25.l)] : List Ev.Val)).length 56) (
  (pvalue_reader_eat ((⟨#[93]⟩ : ByteArray), (o26.1, o26.2.1, ()), ())).bind fun (y27, o28, _) => 
  (bif y27 then kr ((o21.1, o21.2.1, o21.2.2.1, ()), o22 ++ ([(Ev.Val.mk y25.kind y25.n y25.s y25.l)] : List Ev.Val), (o28.1, o28.2.1, ()), ())
  else 
  (pvalue_reader_eat ((⟨#[44]⟩ : ByteArray), (o28.1, o28.2.1, ()), ())).bind fun (y29, o30, _) => 
  (bif !y29 then none
  else rec (v19, ((Ev.Val.mk o20.1.kind o20.1.n o20.1.s o20.1.l), ()), (o21.1, o21.2.1, o21.2.2.1, ()), o22 ++ ([(Ev.Val.mk y25.kind y25.n y25.s y25.l)] : List Ev.Val), (o30.1, o30.2.1, ()), ()))))

/-- a round of a loop of (*value.reader).value -/
noncomputable def pvalue_reader_value_s3 {ρ : Type} (self_pvalue_reader_value : Int × (ByteArray × Int × Unit) × Unit → Option (Ev.Val × (ByteArray × Int × Unit) × Unit)) (n : Nat) (rec : Int × (Ev.Val × Unit) × (ByteArray × Int × Unit) × Unit → Option ρ) (kx : Int × (Ev.Val × Unit) × (ByteArray × Int × Unit) × Unit → Option ρ) (kr : Unit → Option ρ) : Int × (Ev.Val × Unit) × (ByteArray × Int × Unit) × Unit → Option ρ :=
  fun (v37, o38, o39, _) => 
  (bif decide ((o39.2.1 : Int) < (o39.1.size : Int)) then 
  (sat o39.1 o39.2.1).bind fun c40 => 
  (bif decide ((c40 : Int) ≥ 48) then 
  (sat o39.1 o39.2.1).bind fun c41 => 
  (bif decide ((c41 : Int) ≤ 57) then rec (v37, ((Ev.Val.mk o38.1.kind o38.1.n o38.1.s o38.1.l), ()), (o39.1, IntKind.wrap .i64 (o39.2.1 + 1), ()), ())
  else kx (v37, ((Ev.Val.mk o38.1.kind o38.1.n o38.1.s o38.1.l), ()), (o39.1, o39.2.1, ()), ()))
  else kx (v37, ((Ev.Val.mk o38.1.kind o38.1.n o38.1.s o38.1.l), ()), (o39.1, o39.2.1, ()), ()))
  else kx (v37, ((Ev.Val.mk o38.1.kind o38.1.n o38.1.s o38.1.l), ()), (o39.1, o39.2.1, ()), ()))

/-- (*value.reader).value -/
noncomputable def pvalue_reader_value_b (self_pvalue_reader_value : Int × (ByteArray × Int × Unit) × Unit → Option (Ev.Val × (ByteArray × Int × Unit) × Unit)) (n : Nat) : Int × (ByteArray × Int × Unit) × Unit → Option (Ev.Val × (ByteArray × Int × Unit) × Unit) :=
  fun (a1, o2, _) => 
  (pvalue_reader_eat ((⟨#[110, 117, 108, 108]⟩ : ByteArray), (o2.1, o2.2.1, ()), ())).bind fun (y3, o4, _) => 
  (bif y3 then some ((Ev.Val.mk 0 0 (⟨#[]⟩ : ByteArray) ([] : List Ev.Val)), (o4.1, o4.2.1, ()), ())
  else 
  (pvalue_reader_eat ((⟨#[116, 114, 117, 101]⟩ : ByteArray), (o4.1, o4.2.1, ()), ())).bind fun (y5, o6, _) => 
  (bif y5 then 
  (value_truth (true, ())).bind fun (y7, _) => some ((Ev.Val.mk y7.kind y7.n y7.s y7.l), (o6.1, o6.2.1, ()), ())
  else 
  (pvalue_reader_eat ((⟨#[102, 97, 108, 115, 101]⟩ : ByteArray), (o6.1, o6.2.1, ()), ())).bind fun (y8, o9, _) => 
  (bif y8 then 
  (value_truth (false, ())).bind fun (y10, _) => some ((Ev.Val.mk y10.kind y10.n y10.s y10.l), (o9.1, o9.2.1, ()), ())
  else 
  (pvalue_reader_eat ((⟨#[39]⟩ : ByteArray), (o9.1, o9.2.1, ()), ())).bind fun (y11, o12, _) => 
  (bif y11 then 
  (pvalue_reader_text n ((o12.1, o12.2.1, ()), ())).bind fun (y13, o14, _) => some ((Ev.Val.mk 3 0 y13 ([] : List Ev.Val)), (o14.1, o14.2.1, ()), ())
  else 
  (pvalue_reader_eat ((⟨#[91]⟩ : ByteArray), (o12.1, o12.2.1, ()), ())).bind fun (y15, o16, _) => 
  (bif y15 then 
  (bif decide ((a1 : Int) > 40) then none
  else 
  (pvalue_reader_eat ((⟨#[93]⟩ : ByteArray), (o16.1, o16.2.1, ()), ())).bind fun (y17, o18, _) => 
  (bif y17 then some ((Ev.Val.mk 4 0 (⟨#[]⟩ : ByteArray) ([] : List Ev.Val)), (o18.1, o18.2.1, ()), ())
  else 
  iterN (fun rc34 => pvalue_reader_value_s1 self_pvalue_reader_value n rc34 (fun (_) => none) (fun (o31, o32, o33, _) => some ((Ev.Val.mk o31.1 o31.2.1 o31.2.2.1 o32), (o33.1, o33.2.1, ()), ()))) (n) (a1, ((Ev.Val.mk 0 0 (⟨#[]⟩ : ByteArray) ([] : List Ev.Val)), ()), (4, 0, (⟨#[]⟩ : ByteArray), ()), ([] : List Ev.Val), (o18.1, o18.2.1, ()), ())))
  else 
  (pvalue_reader_eat ((⟨#[45]⟩ : ByteArray), (o16.1, o16.2.1, ()), ())).bind fun (y35, o36, _) => 
  iterN (fun rc50 => pvalue_reader_value_s3 self_pvalue_reader_value n rc50 (fun (v42, o43, o44, _) => 
  (ssl o44.1 v42 o44.2.1).bind fun s46 => 
  (atoiN (s46, ())).bind fun (y47, _) => 
  (itoaN (y47, ())).bind fun (y48, _) => 
  (ssl o44.1 v42 o44.2.1).bind fun s49 => 
  (bif !(seq y48 s49) then none
  else some ((Ev.Val.mk 2 y47 (⟨#[]⟩ : ByteArray) ([] : List Ev.Val)), (o44.1, o44.2.1, ()), ()))) (fun (_) => none)) (n) (o2.2.1, ((Ev.Val.mk 0 0 (⟨#[]⟩ : ByteArray) ([] : List Ev.Val)), ()), (o36.1, o36.2.1, ()), ()))))))

noncomputable def pvalue_reader_value : Nat → Int × (ByteArray × Int × Unit) × Unit → Option (Ev.Val × (ByteArray × Int × Unit) × Unit)
  | 0, _ => none
  | n + 1, x => pvalue_reader_value_b (pvalue_reader_value n) n x

/-- value.Parse -/
noncomputable def value_Parse (n : Nat) : ByteArray × Unit → Option (Ev.Val × Int × Int × Unit) :=
  fun (a1, _) => 
  (bif decide (((a1.size : Int) : Int) > 4000) then some ((Ev.Val.mk 0 0 (⟨#[]⟩ : ByteArray) ([] : List Ev.Val)), 0, 2, ())
  else 
  (pvalue_reader_value n (1, (a1, 0, ()), ())).bind fun (y2, o3, _) => 
  (bif decide ((o3.2.1 : Int) < (a1.size : Int)) then none
  else 
  (value_Check n ((Ev.Val.mk y2.kind y2.n y2.s y2.l), ())).bind fun (y4, _) => 
  (bif (y4 : Int) != 0 then some ((Ev.Val.mk 0 0 (⟨#[]⟩ : ByteArray) ([] : List Ev.Val)), 0, y4, ())
  else some ((Ev.Val.mk y2.kind y2.n y2.s y2.l), 0, 0, ()))))

/-- bytes.Compare -/
noncomputable def bytes_Compare : (List Int) × (List Int) × Unit → Option (Int × Unit) :=
  fun (a1, a2, _) => 
  (cmpN (a1, a2, ())).bind fun (y3, _) => some (y3, ())

/-- a round of a loop of espalierref.OrderOf -/
noncomputable def espalierref_OrderOf_s1 {ρ : Type} (self_espalierref_OrderOf : Ev.Val × Ev.Val × Unit → Option (Int × Unit)) (n : Nat) (rec : Int × (Ev.Val × Unit) × (Ev.Val × Unit) × Unit → Option ρ) (kx : (Ev.Val × Unit) × (Ev.Val × Unit) × Unit → Option ρ) (kr : Int × Unit → Option ρ) : Int × (Ev.Val × Unit) × (Ev.Val × Unit) × Unit → Option ρ :=
  fun (v4, o5, o6, _) => 
  (bif (decide ((v4 : Int) < (o5.1.l.length : Int))) && (decide ((v4 : Int) < (o6.1.l.length : Int))) then 
  (ix o5.1.l v4).bind fun x9 => 
  (ix o6.1.l v4).bind fun x10 => 
  (self_espalierref_OrderOf ((Ev.Val.mk x9.kind x9.n x9.s x9.l), (Ev.Val.mk x10.kind x10.n x10.s x10.l), ())).bind fun (y11, _) => 
  (bif (y11 : Int) != 0 then kr (y11, ())
  else rec (IntKind.wrap .i64 (v4 + 1), ((Ev.Val.mk o5.1.kind o5.1.n o5.1.s o5.1.l), ()), ((Ev.Val.mk o6.1.kind o6.1.n o6.1.s o6.1.l), ()), ()))
  else kx (((Ev.Val.mk o5.1.kind o5.1.n o5.1.s o5.1.l), ()), ((Ev.Val.mk o6.1.kind o6.1.n o6.1.s o6.1.l), ()), ()))

/-- espalierref.OrderOf -/
noncomputable def espalierref_OrderOf_b (self_espalierref_OrderOf : Ev.Val × Ev.Val × Unit → Option (Int × Unit)) (n : Nat) : Ev.Val × Ev.Val × Unit → Option (Int × Unit) :=
  fun (a1, a2, _) => 
  (bif decide ((a1.kind : Int) < a2.kind) then some ((-1), ())
  else 
  (bif decide ((a1.kind : Int) > a2.kind) then some (1, ())
  else 
  (bif decide ((a1.n : Int) < a2.n) then some ((-1), ())
  else 
  (bif decide ((a1.n : Int) > a2.n) then some (1, ())
  else 
  (bif !(seq a1.s a2.s) then 
  (bytes_Compare (bytesI a1.s, bytesI a2.s, ())).bind fun (y3, _) => some (y3, ())
  else 
  iterN (fun rc15 => espalierref_OrderOf_s1 self_espalierref_OrderOf n rc15 (fun (o12, o13, _) => 
  (bif decide (((o12.1.l.length : Int) : Int) < (o13.1.l.length : Int)) then some ((-1), ())
  else 
  (bif decide (((o12.1.l.length : Int) : Int) > (o13.1.l.length : Int)) then some (1, ())
  else some (0, ())))) (fun (v14, _) => some (v14, ()))) (n) (0, ((Ev.Val.mk a1.kind a1.n a1.s a1.l), ()), ((Ev.Val.mk a2.kind a2.n a2.s a2.l), ()), ()))))))

noncomputable def espalierref_OrderOf : Nat → Ev.Val × Ev.Val × Unit → Option (Int × Unit)
  | 0, _ => none
  | n + 1, x => espalierref_OrderOf_b (espalierref_OrderOf n) n x

/-- espalierref.SameValue -/
noncomputable def espalierref_SameValue (n : Nat) : Ev.Val × Ev.Val × Unit → Option (Bool × Unit) :=
  fun (a1, a2, _) => 
  (espalierref_OrderOf n ((Ev.Val.mk a1.kind a1.n a1.s a1.l), (Ev.Val.mk a2.kind a2.n a2.s a2.l), ())).bind fun (y3, _) => some ((y3 : Int) == 0, ())

/-- espalierlaw.valued -/
noncomputable def espalierlaw_valued (n : Nat) : Unit → Option (Bool × Unit) :=
  fun (_) => 
  (espalierlaw_num ((-7), ())).bind fun (y1, _) => 
  (espalierlaw_str ((⟨#[105, 116, 39, 115]⟩ : ByteArray), ())).bind fun (y2, _) => 
  (espalierlaw_list (([(Ev.Val.mk y1.kind y1.n y1.s y1.l), (Ev.Val.mk y2.kind y2.n y2.s y2.l), (Ev.Val.mk 0 0 (⟨#[]⟩ : ByteArray) ([] : List Ev.Val))] : List Ev.Val), ())).bind fun (y3, _) => 
  (value_Print n ((Ev.Val.mk y3.kind y3.n y3.s y3.l), ())).bind fun (y4, y5, _) => 
  (value_Parse n ((⟨#[91, 45, 55, 44, 39, 105, 116, 92, 39, 115, 39, 44, 110, 117, 108, 108, 93]⟩ : ByteArray), ())).bind fun (y6, y7, y8, _) => 
  (bif ((((y5 : Int) == 0) && ((y8 : Int) == 0)) && ((y7 : Int) == 0)) && (seq y4 (⟨#[91, 45, 55, 44, 39, 105, 116, 92, 39, 115, 39, 44, 110, 117, 108, 108, 93]⟩ : ByteArray)) then 
  (espalierlaw_num ((-7), ())).bind fun (y9, _) => 
  (espalierlaw_str ((⟨#[105, 116, 39, 115]⟩ : ByteArray), ())).bind fun (y10, _) => 
  (espalierlaw_list (([(Ev.Val.mk y9.kind y9.n y9.s y9.l), (Ev.Val.mk y10.kind y10.n y10.s y10.l), (Ev.Val.mk 0 0 (⟨#[]⟩ : ByteArray) ([] : List Ev.Val))] : List Ev.Val), ())).bind fun (y11, _) => 
  (espalierref_SameValue n ((Ev.Val.mk y6.kind y6.n y6.s y6.l), (Ev.Val.mk y11.kind y11.n y11.s y11.l), ())).bind fun (y12, _) => some (y12, ())
  else some (false, ()))

/-- a round of a loop of espalierref.CheckValue -/
noncomputable def espalierref_CheckValue_s1 {ρ : Type} (self_espalierref_CheckValue : Ev.Val × Int × Unit → Option (Int × Unit)) (n : Nat) (rec : Int × Bool × Bool × (List Ev.Val) × Int × Int × Unit → Option ρ) (kx : Bool × Bool × Unit → Option ρ) (kr : Int × Unit → Option ρ) : Int × Bool × Bool × (List Ev.Val) × Int × Int × Unit → Option ρ :=
  fun (v3, v4, v5, v6, v7, v8, _) => 
  (bif decide ((v8 : Int) < v7) then 
  (ix v6 v8).bind fun x9 => 
  (self_espalierref_CheckValue ((Ev.Val.mk x9.kind x9.n x9.s x9.l), IntKind.wrap .i64 (v3 + 1), ())).bind fun (y10, _) => 
  (bif (y10 : Int) != 0 then kr (y10, ())
  else rec (v3, v4, v5, v6, v7, IntKind.wrap .i64 (v8 + 1), ()))
  else kx (v4, v5, ()))

noncomputable def F_espalierref_CheckValue_s1 {ρ : Type} (self_espalierref_CheckValue : Ev.Val × Int × Unit → Option (Int × Unit)) (n : Nat) (kr : Int × Unit → Option ρ) : Int → Ev.Val → (Int × Bool × Bool × Unit) → ((Int × Bool × Bool × Unit) → Option ρ) → Option ρ :=
  fun v8 x9 (v3, v4, v5, _) rec =>  
  (self_espalierref_CheckValue ((Ev.Val.mk x9.kind x9.n x9.s x9.l), IntKind.wrap .i64 (v3 + 1), ())).bind fun (y10, _) => 
  (bif (y10 : Int) != 0 then kr (y10, ())
  else rec (v3, v4, v5, ()))

theorem R_espalierref_CheckValue_s1 {ρ : Type} (self_espalierref_CheckValue : Ev.Val × Int × Unit → Option (Int × Unit)) (n : Nat) (kx : Bool × Bool × Unit → Option ρ) (kr : Int × Unit → Option ρ) (l : List Ev.Val) (fuel : Nat) (v3 : Int) (v4 : Bool) (v5 : Bool) (hl : l.length ≤ 9223372036854775807) (hf : l.length < fuel) :
    iterN (fun rc => espalierref_CheckValue_s1 self_espalierref_CheckValue n rc kx kr) fuel (v3, v4, v5, l, (l.length : Int), 0, ()) = foldK (F_espalierref_CheckValue_s1 self_espalierref_CheckValue n kr) (fun (v3, v4, v5, _) => kx (v4, v5, ())) 0 l (v3, v4, v5, ()) :=
  range_listM l (fun i (v3, v4, v5, _) => (v3, v4, v5, l, (l.length : Int), i, ())) _ _ _ (fun rec i s => rfl) hl fuel (v3, v4, v5, ()) hf

/-- espalierref.CheckValue -/
noncomputable def espalierref_CheckValue_b (self_espalierref_CheckValue : Ev.Val × Int × Unit → Option (Int × Unit)) (n : Nat) : Ev.Val × Int × Unit → Option (Int × Unit) :=
  fun (a1, a2, _) => 
  (bif (a1.kind : Int) == 4 then 
  (bif (decide (((a1.l.length : Int) : Int) > 30)) || (decide ((a2 : Int) > 6)) then some (2, ())
  else 
  iterN (fun rc14 => espalierref_CheckValue_s1 self_espalierref_CheckValue n rc14 (fun (v11, v12, _) => 
  (bif v11 && v12 then some (0, ())
  else some (6, ()))) (fun (v13, _) => some (v13, ()))) (n) (a2, (a1.n : Int) == 0, seq a1.s (⟨#[]⟩ : ByteArray), a1.l, (a1.l.length : Int), 0, ()))
  else 
  (bif (a1.kind : Int) == 3 then 
  (bif decide (((a1.s.size : Int) : Int) > 4000) then some (2, ())
  else 
  (bif ((a1.n : Int) == 0) && (((a1.l.length : Int) : Int) == 0) then 
  (validN (a1.s, ())).bind fun (y15, _) => 
  (bif y15 then some (0, ())
  else some (6, ()))
  else some (6, ())))
  else 
  (bif (a1.kind : Int) == 0 then 
  (bif (((a1.n : Int) == 0) && (seq a1.s (⟨#[]⟩ : ByteArray))) && (((a1.l.length : Int) : Int) == 0) then some (0, ())
  else some (6, ()))
  else 
  (bif (a1.kind : Int) == 1 then 
  (bif ((((a1.n : Int) == 0) || ((a1.n : Int) == 1)) && (seq a1.s (⟨#[]⟩ : ByteArray))) && (((a1.l.length : Int) : Int) == 0) then some (0, ())
  else some (6, ()))
  else 
  (bif (a1.kind : Int) == 2 then 
  (bif (seq a1.s (⟨#[]⟩ : ByteArray)) && (((a1.l.length : Int) : Int) == 0) then some (0, ())
  else some (6, ()))
  else some (6, ()))))))

noncomputable def espalierref_CheckValue : Nat → Ev.Val × Int × Unit → Option (Int × Unit)
  | 0, _ => none
  | n + 1, x => espalierref_CheckValue_b (espalierref_CheckValue n) n x

/-- espalierlaw.ValueCheck -/
noncomputable def espalierlaw_ValueCheck (n : Nat) : Ev.Val × Unit → Option (Bool × Unit) :=
  fun (a1, _) => 
  (espalierlaw_valued n (())).bind fun (y2, _) => 
  (bif y2 then 
  (value_Check n ((Ev.Val.mk a1.kind a1.n a1.s a1.l), ())).bind fun (y3, _) => 
  (espalierref_CheckValue n ((Ev.Val.mk a1.kind a1.n a1.s a1.l), 1, ())).bind fun (y4, _) => some ((y3 : Int) == y4, ())
  else some (false, ()))

end Pure

/- Plain functions that compute what functions of the program compute (written by gen.py). -/
import Derived.Test.YtdngaeekecbgpaaDoorEvLib
import Derived.Test.YtdngaeekecbgpaaDoorPBase
namespace Pure
open Esp Ev Go
set_option linter.unusedSimpArgs false
set_option linter.unusedVariables false

/-- (*code.reader).take -/
noncomputable def pcode_reader_take : Int × ((List Int) × Bool × Unit) × Unit → Option ((List Int) × ((List Int) × Bool × Unit) × Unit) :=
  fun (a1, o2, _) => 
  (bif o2.2.1 || (decide ((a1 : Int) > (o2.1.length : Int))) then 
  (cnt? a1).bind fun m3 => 
  ck (room m3 1) (some ((List.replicate m3 0), (o2.1, true, ()), ()))
  else 
  (lsl3 o2.1 0 a1 a1).bind fun l4 => 
  (lsl o2.1 a1 (o2.1.length : Int)).bind fun l5 => some (l4, (l5, o2.2.1, ()), ()))

/-- a round of a loop of code.numberOf -/
noncomputable def code_numberOf_s0 {ρ : Type} (n : Nat) (rec : Int × (List Int) × Int × Int × Unit → Option ρ) (kx : Int × Unit → Option ρ) (kr : Unit → Option ρ) : Int × (List Int) × Int × Int × Unit → Option ρ :=
  fun (v2, v3, v4, v5, _) => 
  (bif decide ((v5 : Int) < v4) then 
  (ix v3 v5).bind fun x6 => rec (bor .u64 (bshl .u64 v2 8) (IntKind.wrap .u64 (x6)), v3, v4, IntKind.wrap .i64 (v5 + 1), ())
  else kx (v2, ()))

/-- code.numberOf -/
noncomputable def code_numberOf (n : Nat) : (List Int) × Unit → Option (Int × Unit) :=
  fun (a1, _) => 
  iterN (fun rc8 => code_numberOf_s0 n rc8 (fun (v7, _) => some (v7, ())) (fun (_) => none)) (n) (0, a1, (a1.length : Int), 0, ())

/-- a round of a loop of (*code.reader).value -/
noncomputable def pcode_reader_value_s1 {ρ : Type} (self_pcode_reader_value : Int × ((List Int) × Bool × Unit) × Unit → Option (Ev.Val × ((List Int) × Bool × Unit) × Unit)) (n : Nat) (rec : Int × Int × Int × (Ev.Val × Unit) × (Int × Int × ByteArray × Unit) × (List Ev.Val) × ((List Int) × Bool × Unit) × Unit → Option ρ) (kx : (Ev.Val × Unit) × (Int × Int × ByteArray × Unit) × (List Ev.Val) × ((List Int) × Bool × Unit) × Unit → Option ρ) (kr : Unit → Option ρ) : Int × Int × Int × (Ev.Val × Unit) × (Int × Int × ByteArray × Unit) × (List Ev.Val) × ((List Int) × Bool × Unit) × Unit → Option ρ :=
  fun (v19, v20, v21, o22, o23, o24, o25, _) => 
  (bif decide ((v21 : Int) < v20) then 
  (bif o25.2.1 || (decide ((v19 : Int) > 6)) then kx (((Ev.Val.mk o22.1.kind o22.1.n o22.1.s o22.1.l), ()), (o23.1, o23.2.1, o23.2.2.1, ()), o24, (o25.1, true, ()), ())
  else 
  (self_pcode_reader_value (IntKind.wrap .i64 (v19 + 1), (o25.1, o25.2.1, ()), ())).bind fun (y26, o27, _) => 
  ck (room (o24 ++ ([(Ev.Val.mk y26.kind y26.n y26.s y26.l)] : List Ev.Val)).length 56) (rec (v19, v20, IntKind.wrap .i64 (v21 + 1), ((Ev.Val.mk o22.1.kind o22.1.n o22.1.s o22.1.l), ()), (o23.1, o23.2.1, o23.2.2.1, ()), o24 ++ ([(Ev.Val.mk y26.kind y26.n y26.s y26.l)] : List Ev.Val), (o27.1, o27.2.1, ()), ())))
  else kx (((Ev.Val.mk o22.1.kind o22.1.n o22.1.s o22.1.l), ()), (o23.1, o23.2.1, o23.2.2.1, ()), o24, (o25.1, o25.2.1, ()), ()))

/-- (*code.reader).value -/
noncomputable def pcode_reader_value_b (self_pcode_reader_value : Int × ((List Int) × Bool × Unit) × Unit → Option (Ev.Val × ((List Int) × Bool × Unit) × Unit)) (n : Nat) : Int × ((List Int) × Bool × Unit) × Unit → Option (Ev.Val × ((List Int) × Bool × Unit) × Unit) :=
  fun (a1, o2, _) => 
  (pcode_reader_take (1, (o2.1, o2.2.1, ()), ())).bind fun (y3, o4, _) => 
  (ix y3 0).bind fun x5 => 
  (bif (IntKind.wrap .i64 (x5) : Int) == 1 then 
  (bif (IntKind.wrap .i64 (x5) : Int) == 1 then 
  (pcode_reader_take (8, (o4.1, o4.2.1, ()), ())).bind fun (y6, o7, _) => 
  (code_numberOf n (y6, ())).bind fun (y8, _) => some ((Ev.Val.mk (IntKind.wrap .i64 (x5)) (IntKind.wrap .i64 (bxor .u64 y8 9223372036854775808)) (⟨#[]⟩ : ByteArray) ([] : List Ev.Val)), (o7.1, o7.2.1, ()), ())
  else 
  (bif (IntKind.wrap .i64 (x5) : Int) == 3 then 
  (pcode_reader_take (2, (o4.1, o4.2.1, ()), ())).bind fun (y9, o10, _) => 
  (code_numberOf n (y9, ())).bind fun (y11, _) => 
  (pcode_reader_take (IntKind.wrap .i64 (y11), (o10.1, o10.2.1, ()), ())).bind fun (y12, o13, _) => 
  (str? y12).bind fun s14 => 
  (bif o13.2.1 then some ((Ev.Val.mk (IntKind.wrap .i64 (x5)) 0 s14 ([] : List Ev.Val)), (o13.1, true, ()), ())
  else 
  (validN (s14, ())).bind fun (y15, _) => some ((Ev.Val.mk (IntKind.wrap .i64 (x5)) 0 s14 ([] : List Ev.Val)), (o13.1, !y15, ()), ()))
  else 
  (bif (IntKind.wrap .i64 (x5) : Int) == 4 then 
  (pcode_reader_take (1, (o4.1, o4.2.1, ()), ())).bind fun (y16, o17, _) => 
  (ix y16 0).bind fun x18 => 
  iterN (fun rc32 => pcode_reader_value_s1 self_pcode_reader_value n rc32 (fun (o28, o29, o30, o31, _) => some ((Ev.Val.mk o29.1 o29.2.1 o29.2.2.1 o30), (o31.1, o31.2.1, ()), ())) (fun (_) => none)) (n) (a1, IntKind.wrap .i64 (x18), 0, ((Ev.Val.mk 0 0 (⟨#[]⟩ : ByteArray) ([] : List Ev.Val)), ()), (IntKind.wrap .i64 (x5), 0, (⟨#[]⟩ : ByteArray), ()), ([] : List Ev.Val), (o17.1, o17.2.1, ()), ())
  else some ((Ev.Val.mk (IntKind.wrap .i64 (x5)) 0 (⟨#[]⟩ : ByteArray) ([] : List Ev.Val)), (o4.1, o4.2.1, ()), ()))))
  else 
  (bif (IntKind.wrap .i64 (x5) : Int) == 2 then 
  (pcode_reader_take (8, (o4.1, o4.2.1, ()), ())).bind fun (y33, o34, _) => 
  (code_numberOf n (y33, ())).bind fun (y35, _) => some ((Ev.Val.mk (IntKind.wrap .i64 (x5)) (IntKind.wrap .i64 (bxor .u64 y35 9223372036854775808)) (⟨#[]⟩ : ByteArray) ([] : List Ev.Val)), (o34.1, o34.2.1, ()), ())
  else 
  (bif (IntKind.wrap .i64 (x5) : Int) == 3 then 
  (pcode_reader_take (2, (o4.1, o4.2.1, ()), ())).bind fun (y36, o37, _) => 
  (code_numberOf n (y36, ())).bind fun (y38, _) => 
  (pcode_reader_take (IntKind.wrap .i64 (y38), (o37.1, o37.2.1, ()), ())).bind fun (y39, o40, _) => 
  (str? y39).bind fun s41 => 
  (bif o40.2.1 then some ((Ev.Val.mk (IntKind.wrap .i64 (x5)) 0 s41 ([] : List Ev.Val)), (o40.1, true, ()), ())
  else 
  (validN (s41, ())).bind fun (y42, _) => some ((Ev.Val.mk (IntKind.wrap .i64 (x5)) 0 s41 ([] : List Ev.Val)), (o40.1, !y42, ()), ()))
  else 
  (bif (IntKind.wrap .i64 (x5) : Int) == 4 then 
  (pcode_reader_take (1, (o4.1, o4.2.1, ()), ())).bind fun (y43, o44, _) => 
  (ix y43 0).bind fun x45 => 
  iterN (fun rc50 => pcode_reader_value_s1 self_pcode_reader_value n rc50 (fun (o46, o47, o48, o49, _) => some ((Ev.Val.mk o47.1 o47.2.1 o47.2.2.1 o48), (o49.1, o49.2.1, ()), ())) (fun (_) => none)) (n) (a1, IntKind.wrap .i64 (x45), 0, ((Ev.Val.mk 0 0 (⟨#[]⟩ : ByteArray) ([] : List Ev.Val)), ()), (IntKind.wrap .i64 (x5), 0, (⟨#[]⟩ : ByteArray), ()), ([] : List Ev.Val), (o44.1, o44.2.1, ()), ())
  else some ((Ev.Val.mk (IntKind.wrap .i64 (x5)) 0 (⟨#[]⟩ : ByteArray) ([] : List Ev.Val)), (o4.1, o4.2.1, ()), ())))))

noncomputable def pcode_reader_value : Nat → Int × ((List Int) × Bool × Unit) × Unit → Option (Ev.Val × ((List Int) × Bool × Unit) × Unit)
  | 0, _ => none
  | n + 1, x => pcode_reader_value_b (pcode_reader_value n) n x

/-- a round of a loop of value.check -/
noncomputable def value_check_s1 {ρ : Type} (self_value_check : Ev.Val × Int × Unit → Option (Int × Unit)) (n : Nat) (rec : Int × (List Ev.Val) × Int × Int × (Ev.Val × Unit) × Unit → Option ρ) (kx : (Ev.Val × Unit) × Unit → Option ρ) (kr : Int × Unit → Option ρ) : Int × (List Ev.Val) × Int × Int × (Ev.Val × Unit) × Unit → Option ρ :=
  fun (v4, v5, v6, v7, o8, _) => 
  (bif decide ((v7 : Int) < v6) then 
  (ix v5 v7).bind fun x9 => 
  (self_value_check ((Ev.Val.mk x9.kind x9.n x9.s x9.l), IntKind.wrap .i64 (v4 + 1), ())).bind fun (y10, _) => 
  (bif (y10 : Int) != 0 then kr (y10, ())
  else rec (v4, v5, v6, IntKind.wrap .i64 (v7 + 1), ((Ev.Val.mk o8.1.kind o8.1.n o8.1.s o8.1.l), ()), ()))
  else kx (((Ev.Val.mk o8.1.kind o8.1.n o8.1.s o8.1.l), ()), ()))

/-- value.check -/
noncomputable def value_check_b (self_value_check : Ev.Val × Int × Unit → Option (Int × Unit)) (n : Nat) : Ev.Val × Int × Unit → Option (Int × Unit) :=
  fun (a1, a2, _) => 
  (bif (a1.kind : Int) == 0 then 
  (bif !((((a1.n : Int) == 0) && (seq a1.s (⟨#[]⟩ : ByteArray))) && (((a1.l.length : Int) : Int) == 0)) then some (6, ())
  else some (0, ()))
  else 
  (bif (a1.kind : Int) == 1 then 
  (bif !(((((a1.n : Int) == 0) || ((a1.n : Int) == 1)) && (seq a1.s (⟨#[]⟩ : ByteArray))) && (((a1.l.length : Int) : Int) == 0)) then some (6, ())
  else some (0, ()))
  else 
  (bif (a1.kind : Int) == 2 then 
  (bif !((seq a1.s (⟨#[]⟩ : ByteArray)) && (((a1.l.length : Int) : Int) == 0)) then some (6, ())
  else some (0, ()))
  else 
  (bif (a1.kind : Int) == 3 then 
  (bif decide (((a1.s.size : Int) : Int) > 4000) then some (2, ())
  else 
  (bif (a1.n : Int) == 0 then 
  (validN (a1.s, ())).bind fun (y3, _) => 
  (bif !(y3 && (((a1.l.length : Int) : Int) == 0)) then some (6, ())
  else some (0, ()))
  else some (6, ())))
  else 
  (bif (a1.kind : Int) == 4 then 
  (bif (decide (((a1.l.length : Int) : Int) > 30)) || (decide ((a2 : Int) > 6)) then some (2, ())
  else 
  iterN (fun rc13 => value_check_s1 self_value_check n rc13 (fun (o11, _) => 
  (bif !(((o11.1.n : Int) == 0) && (seq o11.1.s (⟨#[]⟩ : ByteArray))) then some (6, ())
  else some (0, ()))) (fun (v12, _) => some (v12, ()))) (n) (a2, a1.l, (a1.l.length : Int), 0, ((Ev.Val.mk a1.kind a1.n a1.s a1.l), ()), ()))
  else some (6, ()))))))

noncomputable def value_check : Nat → Ev.Val × Int × Unit → Option (Int × Unit)
  | 0, _ => none
  | n + 1, x => value_check_b (value_check n) n x

/-- value.Check -/
noncomputable def value_Check (n : Nat) : Ev.Val × Unit → Option (Int × Unit) :=
  fun (a1, _) => 
  (value_check n ((Ev.Val.mk a1.kind a1.n a1.s a1.l), 1, ())).bind fun (y2, _) => some (y2, ())

/-- code.Value -/
noncomputable def code_Value (n : Nat) : ByteArray × Unit → Option (Ev.Val × Int × Unit) :=
  fun (a1, _) => 
  (bif decide (((a1.size : Int) : Int) > 8000) then some ((Ev.Val.mk 0 0 (⟨#[]⟩ : ByteArray) ([] : List Ev.Val)), 2, ())
  else 
  (pcode_reader_value n (1, (bytesI a1, false, ()), ())).bind fun (y2, o3, _) => 
  (bif o3.2.1 || (decide (((o3.1.length : Int) : Int) > 0)) then some ((Ev.Val.mk 0 0 (⟨#[]⟩ : ByteArray) ([] : List Ev.Val)), 11, ())
  else 
  (value_Check n ((Ev.Val.mk y2.kind y2.n y2.s y2.l), ())).bind fun (y4, _) => 
  (bif (y4 : Int) != 0 then some ((Ev.Val.mk 0 0 (⟨#[]⟩ : ByteArray) ([] : List Ev.Val)), 11, ())
  else some ((Ev.Val.mk y2.kind y2.n y2.s y2.l), 0, ()))))

/-- code.Long -/
noncomputable def code_Long (n : Nat) : ByteArray × Unit → Option (Int × Bool × Unit) :=
  fun (a1, _) => 
  (pcode_reader_value n (1, (bytesI a1, false, ()), ())).bind fun (y2, o3, _) => 
  (bif o3.2.1 then some (0, false, ())
  else 
  (value_Check n ((Ev.Val.mk y2.kind y2.n y2.s y2.l), ())).bind fun (y4, _) => 
  (bif (y4 : Int) != 0 then some (0, false, ())
  else some (IntKind.wrap .i64 ((a1.size : Int) - (o3.1.length : Int)), true, ())))

/-- a round of a loop of espalierref.ofHigh -/
noncomputable def espalierref_ofHigh_s0 {ρ : Type} (n : Nat) (rec : ByteArray × Int × Int × Int × Unit → Option ρ) (kx : Int × Unit → Option ρ) (kr : Unit → Option ρ) : ByteArray × Int × Int × Int × Unit → Option ρ :=
  fun (v2, v3, v4, v5, _) => 
  (bif decide ((v5 : Int) < v4) then 
  (sat v2 v5).bind fun c6 => rec (v2, IntKind.wrap .u64 ((IntKind.wrap .u64 (256 * v3)) + (IntKind.wrap .u64 (c6))), v4, IntKind.wrap .i64 (v5 + 1), ())
  else kx (v3, ()))

/-- espalierref.ofHigh -/
noncomputable def espalierref_ofHigh (n : Nat) : ByteArray × Unit → Option (Int × Unit) :=
  fun (a1, _) => 
  iterN (fun rc8 => espalierref_ofHigh_s0 n rc8 (fun (v7, _) => some (v7, ())) (fun (_) => none)) (n) (a1, 0, (a1.size : Int), 0, ())

/-- a round of a loop of espalierref.unbyte -/
noncomputable def espalierref_unbyte_s1 {ρ : Type} (self_espalierref_unbyte : ByteArray × Int × Unit → Option (Ev.Val × ByteArray × Bool × Unit)) (n : Nat) (rec : ByteArray × Int × Int × Int × (Int × Int × ByteArray × Unit) × (List Ev.Val) × Unit → Option ρ) (kx : ByteArray × (Int × Int × ByteArray × Unit) × (List Ev.Val) × Unit → Option ρ) (kr : ByteArray × Bool × (Int × Int × ByteArray × Unit) × (List Ev.Val) × Unit → Option ρ) : ByteArray × Int × Int × Int × (Int × Int × ByteArray × Unit) × (List Ev.Val) × Unit → Option ρ :=
  fun (v20, v21, v22, v23, o24, o25, _) => 
  (bif decide ((v23 : Int) < v22) then 
  (self_espalierref_unbyte (v20, IntKind.wrap .i64 (v21 + 1), ())).bind fun (y26, y27, y28, _) => 
  (bif !y28 then kr ((⟨#[]⟩ : ByteArray), false, (o24.1, o24.2.1, o24.2.2.1, ()), o25, ())
  else 
  ck (room (o25 ++ ([(Ev.Val.mk y26.kind y26.n y26.s y26.l)] : List Ev.Val)).length 56) (rec (y27, v21, v22, IntKind.wrap .i64 (v23 + 1), (o24.1, o24.2.1, o24.2.2.1, ()), o25 ++ ([(Ev.Val.mk y26.kind y26.n y26.s y26.l)] : List Ev.Val), ())))
  else kx (v20, (o24.1, o24.2.1, o24.2.2.1, ()), o25, ()))

/-- espalierref.unbyte -/
noncomputable def espalierref_unbyte_b (self_espalierref_unbyte : ByteArray × Int × Unit → Option (Ev.Val × ByteArray × Bool × Unit)) (n : Nat) : ByteArray × Int × Unit → Option (Ev.Val × ByteArray × Bool × Unit) :=
  fun (a1, a2, _) => 
  (bif (seq a1 (⟨#[]⟩ : ByteArray)) || (decide ((a2 : Int) > 8)) then some ((Ev.Val.mk 0 0 (⟨#[]⟩ : ByteArray) ([] : List Ev.Val)), (⟨#[]⟩ : ByteArray), false, ())
  else 
  (sat a1 0).bind fun c5 => 
  (ssl a1 1 (a1.size : Int)).bind fun s6 => 
  (bif (IntKind.wrap .i64 (c5) : Int) == 0 then some ((Ev.Val.mk (IntKind.wrap .i64 (c5)) 0 (⟨#[]⟩ : ByteArray) ([] : List Ev.Val)), s6, true, ())
  else 
  (bif (IntKind.wrap .i64 (c5) : Int) == 1 then 
  (bif (IntKind.wrap .i64 (c5) : Int) == 1 then 
  (bif decide (((s6.size : Int) : Int) < 8) then some ((Ev.Val.mk (IntKind.wrap .i64 (c5)) 0 (⟨#[]⟩ : ByteArray) ([] : List Ev.Val)), (⟨#[]⟩ : ByteArray), false, ())
  else 
  (ssl s6 0 8).bind fun s7 => 
  (espalierref_ofHigh n (s7, ())).bind fun (y8, _) => 
  (ssl s6 8 (s6.size : Int)).bind fun s10 => some ((Ev.Val.mk (IntKind.wrap .i64 (c5)) (IntKind.wrap .i64 (bxor .u64 y8 9223372036854775808)) (⟨#[]⟩ : ByteArray) ([] : List Ev.Val)), s10, true, ()))
  else 
  (bif (IntKind.wrap .i64 (c5) : Int) == 3 then 
  (bif decide (((s6.size : Int) : Int) < 2) then some ((Ev.Val.mk (IntKind.wrap .i64 (c5)) 0 (⟨#[]⟩ : ByteArray) ([] : List Ev.Val)), (⟨#[]⟩ : ByteArray), false, ())
  else 
  (sat s6 0).bind fun c13 => 
  (sat s6 1).bind fun c14 => 
  (bif decide (((s6.size : Int) : Int) < (IntKind.wrap .i64 (2 + (IntKind.wrap .i64 ((IntKind.wrap .i64 ((IntKind.wrap .i64 (c13)) * 256)) + (IntKind.wrap .i64 (c14))))))) then some ((Ev.Val.mk (IntKind.wrap .i64 (c5)) 0 (⟨#[]⟩ : ByteArray) ([] : List Ev.Val)), (⟨#[]⟩ : ByteArray), false, ())
  else 
  (ssl s6 2 (IntKind.wrap .i64 (2 + (IntKind.wrap .i64 ((IntKind.wrap .i64 ((IntKind.wrap .i64 (c13)) * 256)) + (IntKind.wrap .i64 (c14))))))).bind fun s15 => 
  (ssl s6 (IntKind.wrap .i64 (2 + (IntKind.wrap .i64 ((IntKind.wrap .i64 ((IntKind.wrap .i64 (c13)) * 256)) + (IntKind.wrap .i64 (c14)))))) (s6.size : Int)).bind fun s17 => some ((Ev.Val.mk (IntKind.wrap .i64 (c5)) 0 s15 ([] : List Ev.Val)), s17, true, ())))
  else 
  (bif (IntKind.wrap .i64 (c5) : Int) == 4 then 
  (bif seq s6 (⟨#[]⟩ : ByteArray) then some ((Ev.Val.mk (IntKind.wrap .i64 (c5)) 0 (⟨#[]⟩ : ByteArray) ([] : List Ev.Val)), (⟨#[]⟩ : ByteArray), false, ())
  else 
  (sat s6 0).bind fun c18 => 
  (ssl s6 1 (s6.size : Int)).bind fun s19 => 
  iterN (fun rc36 => espalierref_unbyte_s1 self_espalierref_unbyte n rc36 (fun (v29, o30, o31, _) => some ((Ev.Val.mk o30.1 o30.2.1 o30.2.2.1 o31), v29, true, ())) (fun (v32, v33, o34, o35, _) => some ((Ev.Val.mk o34.1 o34.2.1 o34.2.2.1 o35), v32, v33, ()))) (n) (s19, a2, IntKind.wrap .i64 (c18), 0, (IntKind.wrap .i64 (c5), 0, (⟨#[]⟩ : ByteArray), ()), ([] : List Ev.Val), ()))
  else some ((Ev.Val.mk (IntKind.wrap .i64 (c5)) 0 (⟨#[]⟩ : ByteArray) ([] : List Ev.Val)), (⟨#[]⟩ : ByteArray), false, ()))))
  else 
  (bif (IntKind.wrap .i64 (c5) : Int) == 2 then 
  (bif decide (((s6.size : Int) : Int) < 8) then some ((Ev.Val.mk (IntKind.wrap .i64 (c5)) 0 (⟨#[]⟩ : ByteArray) ([] : List Ev.Val)), (⟨#[]⟩ : ByteArray), false, ())
  else 
  (ssl s6 0 8).bind fun s37 => 
  (espalierref_ofHigh n (s37, ())).bind fun (y38, _) => 
  (ssl s6 8 (s6.size : Int)).bind fun s40 => some ((Ev.Val.mk (IntKind.wrap .i64 (c5)) (IntKind.wrap .i64 (bxor .u64 y38 9223372036854775808)) (⟨#[]⟩ : ByteArray) ([] : List Ev.Val)), s40, true, ()))
  else 
  (bif (IntKind.wrap .i64 (c5) : Int) == 3 then 
  (bif decide (((s6.size : Int) : Int) < 2) then some ((Ev.Val.mk (IntKind.wrap .i64 (c5)) 0 (⟨#[]⟩ : ByteArray) ([] : List Ev.Val)), (⟨#[]⟩ : ByteArray), false, ())
  else 
  (sat s6 0).bind fun c43 => 
  (sat s6 1).bind fun c44 => 
  (bif decide (((s6.size : Int) : Int) < (IntKind.wrap .i64 (2 + (IntKind.wrap .i64 ((IntKind.wrap .i64 ((IntKind.wrap .i64 (c43)) * 256)) + (IntKind.wrap .i64 (c44))))))) then some ((Ev.Val.mk (IntKind.wrap .i64 (c5)) 0 (⟨#[]⟩ : ByteArray) ([] : List Ev.Val)), (⟨#[]⟩ : ByteArray), false, ())
  else 
  (ssl s6 2 (IntKind.wrap .i64 (2 + (IntKind.wrap .i64 ((IntKind.wrap .i64 ((IntKind.wrap .i64 (c43)) * 256)) + (IntKind.wrap .i64 (c44))))))).bind fun s45 => 
  (ssl s6 (IntKind.wrap .i64 (2 + (IntKind.wrap .i64 ((IntKind.wrap .i64 ((IntKind.wrap .i64 (c43)) * 256)) + (IntKind.wrap .i64 (c44)))))) (s6.size : Int)).bind fun s47 => some ((Ev.Val.mk (IntKind.wrap .i64 (c5)) 0 s45 ([] : List Ev.Val)), s47, true, ())))
  else 
  (bif (IntKind.wrap .i64 (c5) : Int) == 4 then 
  (bif seq s6 (⟨#[]⟩ : ByteArray) then some ((Ev.Val.mk (IntKind.wrap .i64 (c5)) 0 (⟨#[]⟩ : ByteArray) ([] : List Ev.Val)), (⟨#[]⟩ : ByteArray), false, ())
  else 
  (sat s6 0).bind fun c48 => 
  (ssl s6 1 (s6.size : Int)).bind fun s49 => 
  iterN (fun rc57 => espalierref_unbyte_s1 self_espalierref_unbyte n rc57 (fun (v50, o51, o52, _) => some ((Ev.Val.mk o51.1 o51.2.1 o51.2.2.1 o52), v50, true, ())) (fun (v53, v54, o55, o56, _) => some ((Ev.Val.mk o55.1 o55.2.1 o55.2.2.1 o56), v53, v54, ()))) (n) (s49, a2, IntKind.wrap .i64 (c48), 0, (IntKind.wrap .i64 (c5), 0, (⟨#[]⟩ : ByteArray), ()), ([] : List Ev.Val), ()))
  else some ((Ev.Val.mk (IntKind.wrap .i64 (c5)) 0 (⟨#[]⟩ : ByteArray) ([] : List Ev.Val)), (⟨#[]⟩ : ByteArray), false, ())))))))

noncomputable def espalierref_unbyte : Nat → ByteArray × Int × Unit → Option (Ev.Val × ByteArray × Bool × Unit)
  | 0, _ => none
  | n + 1, x => espalierref_unbyte_b (espalierref_unbyte n) n x

/-- a round of a loop of espalierref.CheckValue -/
noncomputable def espalierref_CheckValue_s1 {ρ : Type} (self_espalierref_CheckValue : Ev.Val × Int × Unit → Option (Int × Unit)) (n : Nat) (rec : Int × Bool × Bool × (List Ev.Val) × Int × Int × Unit → Option ρ) (kx : Bool × Bool × Unit → Option ρ) (kr : Int × Unit → Option ρ) : Int × Bool × Bool × (List Ev.Val) × Int × Int × Unit → Option ρ :=
  fun (v3, v4, v5, v6, v7, v8, _) => 
  (bif decide ((v8 : Int) < v7) then 
  (ix v6 v8).bind fun x9 => 
  (self_espalierref_CheckValue ((Ev.Val.mk x9.kind x9.n x9.s x9.l), IntKind.wrap .i64 (v3 + 1), ())).bind fun (y10, _) => 
  (bif (y10 : Int) != 0 then kr (y10, ())
  else rec (v3, v4, v5, v6, v7, IntKind.wrap .i64 (v8 + 1), ()))
  else kx (v4, v5, ()))

/-- espalierref.CheckValue -/
noncomputable def espalierref_CheckValue_b (self_espalierref_CheckValue : Ev.Val × Int × Unit → Option (Int × Unit)) (n : Nat) : Ev.Val × Int × Unit → Option (Int × Unit) :=
  fun (a1, a2, _) => 
  (bif (a1.kind : Int) == 4 then 
  (bif (decide (((a1.l.length : Int) : Int) > 30)) || (decide ((a2 : Int) > 6)) then some (2, ())
  else 
  iterN (fun rc14 => espalierref_CheckValue_s1 self_espalierref_CheckValue n rc14 (fun (v11, v12, _) => 
  (bif v11 && v12 then some (0, ())
  else some (6, ()))) (fun (v13, _) => some (v13, ()))) (n) (a2, (a1.n : Int) == 0, seq a1.s (⟨#[]⟩ : ByteArray), a1.l, (a1.l.length : Int), 0, ()))
  else 
  (bif (a1.kind : Int) == 3 then 
  (bif decide (((a1.s.size : Int) : Int) > 4000) then some (2, ())
  else 
  (bif ((a1.n : Int) == 0) && (((a1.l.length : Int) : Int) == 0) then 
  (validN (a1.s, ())).bind fun (y15, _) => 
  (bif y15 then some (0, ())
  else some (6, ()))
  else some (6, ())))
  else 
  (bif (a1.kind : Int) == 0 then 
  (bif (((a1.n : Int) == 0) && (seq a1.s (⟨#[]⟩ : ByteArray))) && (((a1.l.length : Int) : Int) == 0) then some (0, ())
  else some (6, ()))
  else 
  (bif (a1.kind : Int) == 1 then 
  (bif ((((a1.n : Int) == 0) || ((a1.n : Int) == 1)) && (seq a1.s (⟨#[]⟩ : ByteArray))) && (((a1.l.length : Int) : Int) == 0) then some (0, ())
  else some (6, ()))
  else 
  (bif (a1.kind : Int) == 2 then 
  (bif (seq a1.s (⟨#[]⟩ : ByteArray)) && (((a1.l.length : Int) : Int) == 0) then some (0, ())
  else some (6, ()))
  else some (6, ()))))))

noncomputable def espalierref_CheckValue : Nat → Ev.Val × Int × Unit → Option (Int × Unit)
  | 0, _ => none
  | n + 1, x => espalierref_CheckValue_b (espalierref_CheckValue n) n x

/-- espalierref.Right -/
noncomputable def espalierref_Right (n : Nat) : Ev.Val × Unit → Option (Bool × Unit) :=
  fun (a1, _) => 
  (espalierref_CheckValue n ((Ev.Val.mk a1.kind a1.n a1.s a1.l), 1, ())).bind fun (y2, _) => some ((y2 : Int) == 0, ())

/-- espalierref.LongOf -/
noncomputable def espalierref_LongOf (n : Nat) : ByteArray × Unit → Option (Ev.Val × Int × Bool × Unit) :=
  fun (a1, _) => 
  (espalierref_unbyte n (a1, 1, ())).bind fun (y2, y3, y4, _) => 
  (bif !y4 then some ((Ev.Val.mk 0 0 (⟨#[]⟩ : ByteArray) ([] : List Ev.Val)), 0, false, ())
  else 
  (espalierref_Right n ((Ev.Val.mk y2.kind y2.n y2.s y2.l), ())).bind fun (y5, _) => 
  (bif !y5 then some ((Ev.Val.mk 0 0 (⟨#[]⟩ : ByteArray) ([] : List Ev.Val)), 0, false, ())
  else some ((Ev.Val.mk y2.kind y2.n y2.s y2.l), IntKind.wrap .i64 ((a1.size : Int) - (y3.size : Int)), true, ())))

/-- espalierlaw.num -/
noncomputable def espalierlaw_num : Int × Unit → Option (Ev.Val × Unit) :=
  fun (a1, _) => some ((Ev.Val.mk 2 a1 (⟨#[]⟩ : ByteArray) ([] : List Ev.Val)), ())

/-- a round of a loop of code.number -/
noncomputable def code_number_s0 {ρ : Type} (n : Nat) (rec : Int × Int × (List Int) × Unit → Option ρ) (kx : (List Int) × Unit → Option ρ) (kr : Unit → Option ρ) : Int × Int × (List Int) × Unit → Option ρ :=
  fun (v4, v5, o6, _) => 
  (bif decide ((v5 : Int) ≥ 0) then 
  (shamt (IntKind.wrap .i64 (8 * v5))).bind fun q7 => 
  ck (room (o6 ++ ([IntKind.wrap .u8 (bshr .u64 v4 q7)] : List Int)).length 1) (rec (v4, IntKind.wrap .i64 (v5 - 1), o6 ++ ([IntKind.wrap .u8 (bshr .u64 v4 q7)] : List Int), ()))
  else kx (o6, ()))

/-- code.number -/
noncomputable def code_number (n : Nat) : Int × Int × (List Int) × Unit → Option ((List Int) × Unit) :=
  fun (a1, a2, o3, _) => 
  iterN (fun rc9 => code_number_s0 n rc9 (fun (o8, _) => some (o8, ())) (fun (_) => none)) (n) (a1, IntKind.wrap .i64 (a2 - 1), o3, ())

/-- a round of a loop of code.Put -/
noncomputable def code_Put_s1 {ρ : Type} (self_code_Put : Ev.Val × (List Int) × Unit → Option ((List Int) × Unit)) (n : Nat) (rec : (List Ev.Val) × Int × Int × (List Int) × Unit → Option ρ) (kx : (List Int) × Unit → Option ρ) (kr : Unit → Option ρ) : (List Ev.Val) × Int × Int × (List Int) × Unit → Option ρ :=
  fun (v5, v6, v7, o8, _) => 
  (bif decide ((v7 : Int) < v6) then 
  (ix v5 v7).bind fun x9 => 
  (self_code_Put ((Ev.Val.mk x9.kind x9.n x9.s x9.l), o8, ())).bind fun (o10, _) => rec (v5, v6, IntKind.wrap .i64 (v7 + 1), o10, ())
  else kx (o8, ()))

/-- code.Put -/
noncomputable def code_Put_b (self_code_Put : Ev.Val × (List Int) × Unit → Option ((List Int) × Unit)) (n : Nat) : Ev.Val × (List Int) × Unit → Option ((List Int) × Unit) :=
  fun (a1, o2, _) => 
  ck (room (o2 ++ ([IntKind.wrap .u8 (a1.kind)] : List Int)).length 1) (
  (bif (a1.kind : Int) == 1 then 
  (bif (a1.kind : Int) == 1 then 
  (code_number n (bxor .u64 (IntKind.wrap .u64 (a1.n)) 9223372036854775808, 8, o2 ++ ([IntKind.wrap .u8 (a1.kind)] : List Int), ())).bind fun (o3, _) => some (o3, ())
  else 
  (bif (a1.kind : Int) == 3 then 
  (code_number n (IntKind.wrap .u64 ((a1.s.size : Int)), 2, o2 ++ ([IntKind.wrap .u8 (a1.kind)] : List Int), ())).bind fun (o4, _) => 
  ck (room (o4 ++ (bytesI a1.s)).length 1) (some (o4 ++ (bytesI a1.s), ()))
  else 
  (bif (a1.kind : Int) == 4 then 
  ck (room ((o2 ++ ([IntKind.wrap .u8 (a1.kind)] : List Int)) ++ ([IntKind.wrap .u8 ((a1.l.length : Int))] : List Int)).length 1) (
  iterN (fun rc12 => code_Put_s1 self_code_Put n rc12 (fun (o11, _) => some (o11, ())) (fun (_) => none)) (n) (a1.l, (a1.l.length : Int), 0, (o2 ++ ([IntKind.wrap .u8 (a1.kind)] : List Int)) ++ ([IntKind.wrap .u8 ((a1.l.length : Int))] : List Int), ()))
  else some (o2 ++ ([IntKind.wrap .u8 (a1.kind)] : List Int), ()))))
  else 
  (bif (a1.kind : Int) == 2 then 
  (code_number n (bxor .u64 (IntKind.wrap .u64 (a1.n)) 9223372036854775808, 8, o2 ++ ([IntKind.wrap .u8 (a1.kind)] : List Int), ())).bind fun (o13, _) => some (o13, ())
  else 
  (bif (a1.kind : Int) == 3 then 
  (code_number n (IntKind.wrap .u64 ((a1.s.size : Int)), 2, o2 ++ ([IntKind.wrap .u8 (a1.kind)] : List Int), ())).bind fun (o14, _) => 
  ck (room (o14 ++ (bytesI a1.s)).length 1) (some (o14 ++ (bytesI a1.s), ()))
  else 
  (bif (a1.kind : Int) == 4 then 
  ck (room ((o2 ++ ([IntKind.wrap .u8 (a1.kind)] : List Int)) ++ ([IntKind.wrap .u8 ((a1.l.length : Int))] : List Int)).length 1) (
  iterN (fun rc16 => code_Put_s1 self_code_Put n rc16 (fun (o15, _) => some (o15, ())) (fun (_) => none)) (n) (a1.l, (a1.l.length : Int), 0, (o2 ++ ([IntKind.wrap .u8 (a1.kind)] : List Int)) ++ ([IntKind.wrap .u8 ((a1.l.length : Int))] : List Int), ()))
  else some (o2 ++ ([IntKind.wrap .u8 (a1.kind)] : List Int), ()))))))

noncomputable def code_Put : Nat → Ev.Val × (List Int) × Unit → Option ((List Int) × Unit)
  | 0, _ => none
  | n + 1, x => code_Put_b (code_Put n) n x

/-- code.Bytes -/
noncomputable def code_Bytes (n : Nat) : Ev.Val × Unit → Option (ByteArray × Int × Unit) :=
  fun (a1, _) => 
  (value_Check n ((Ev.Val.mk a1.kind a1.n a1.s a1.l), ())).bind fun (y2, _) => 
  (bif (y2 : Int) != 0 then some ((⟨#[]⟩ : ByteArray), y2, ())
  else 
  (code_Put n ((Ev.Val.mk a1.kind a1.n a1.s a1.l), ([] : List Int), ())).bind fun (o3, _) => 
  (bif decide (((o3.length : Int) : Int) > 8000) then some ((⟨#[]⟩ : ByteArray), 2, ())
  else 
  (str? o3).bind fun s4 => some (s4, 0, ())))

/-- a round of a loop of code.sum -/
noncomputable def code_sum_s2 {ρ : Type} (n : Nat) (rec : ByteArray × Int × Int × Int × Int × Unit → Option ρ) (kx : ByteArray × Int × Int × Int × Unit → Option ρ) (kr : Unit → Option ρ) : ByteArray × Int × Int × Int × Int × Unit → Option ρ :=
  fun (v7, v8, v9, v10, v11, _) => 
  (bif decide ((v11 : Int) < 8) then rec (v7, bxor .u32 (bshr .u32 v8 1) (band .u32 3988292384 (IntKind.wrap .u32 (0 - (band .u32 v8 1)))), v9, v10, IntKind.wrap .i64 (v11 + 1), ())
  else kx (v7, v8, v9, v10, ()))

/-- a round of a loop of code.sum -/
noncomputable def code_sum_s0 {ρ : Type} (n : Nat) (rec : ByteArray × Int × Int × Int × Unit → Option ρ) (kx : Int × Unit → Option ρ) (kr : Unit → Option ρ) : ByteArray × Int × Int × Int × Unit → Option ρ :=
  fun (v2, v3, v4, v5, _) => 
  (bif decide ((v5 : Int) < v4) then 
  (sat v2 v5).bind fun c6 => 
  iterN (fun rc16 => code_sum_s2 n rc16 (fun (v12, v13, v14, v15, _) => rec (v12, v13, v14, IntKind.wrap .i64 (v15 + 1), ())) (fun (_) => none)) (n) (v2, bxor .u32 v3 (IntKind.wrap .u32 (c6)), v4, v5, 0, ())
  else kx (v3, ()))

/-- code.sum -/
noncomputable def code_sum (n : Nat) : ByteArray × Unit → Option (Int × Unit) :=
  fun (a1, _) => 
  iterN (fun rc18 => code_sum_s0 n rc18 (fun (v17, _) => some (IntKind.wrap .u64 (bnot .u32 v17), ())) (fun (_) => none)) (n) (a1, 4294967295, (a1.size : Int), 0, ())

/-- code.Frame -/
noncomputable def code_Frame (n : Nat) : ByteArray × Unit → Option (ByteArray × Int × Unit) :=
  fun (a1, _) => 
  (bif seq a1 (⟨#[]⟩ : ByteArray) then some ((⟨#[]⟩ : ByteArray), 6, ())
  else 
  (bif decide (((a1.size : Int) : Int) > 8000) then some ((⟨#[]⟩ : ByteArray), 2, ())
  else 
  (code_number n (IntKind.wrap .u64 ((a1.size : Int)), 4, ([] : List Int), ())).bind fun (o2, _) => 
  (code_sum n (a1, ())).bind fun (y3, _) => 
  (code_number n (y3, 4, o2, ())).bind fun (o4, _) => 
  (str? o4).bind fun s5 => 
  (cat? s5 a1).bind fun s6 => some (s6, 0, ())))

/-- espalierlaw.coded -/
noncomputable def espalierlaw_coded (n : Nat) : Unit → Option (Bool × Unit) :=
  fun (_) => 
  (espalierlaw_num (1, ())).bind fun (y1, _) => 
  (code_Bytes n ((Ev.Val.mk y1.kind y1.n y1.s y1.l), ())).bind fun (y2, y3, _) => 
  (code_Frame n ((⟨#[97]⟩ : ByteArray), ())).bind fun (y4, y5, _) => some (((((y3 : Int) == 0) && ((y5 : Int) == 0)) && (seq y2 (⟨#[2, 128, 0, 0, 0, 0, 0, 0, 1]⟩ : ByteArray))) && (seq y4 (⟨#[0, 0, 0, 1, 232, 183, 190, 67, 97]⟩ : ByteArray)), ())

/-- bytes.Compare -/
noncomputable def bytes_Compare : (List Int) × (List Int) × Unit → Option (Int × Unit) :=
  fun (a1, a2, _) => 
  (cmpN (a1, a2, ())).bind fun (y3, _) => some (y3, ())

/-- a round of a loop of espalierref.OrderOf -/
noncomputable def espalierref_OrderOf_s1 {ρ : Type} (self_espalierref_OrderOf : Ev.Val × Ev.Val × Unit → Option (Int × Unit)) (n : Nat) (rec : Int × (Ev.Val × Unit) × (Ev.Val × Unit) × Unit → Option ρ) (kx : (Ev.Val × Unit) × (Ev.Val × Unit) × Unit → Option ρ) (kr : Int × Unit → Option ρ) : Int × (Ev.Val × Unit) × (Ev.Val × Unit) × Unit → Option ρ :=
  fun (v4, o5, o6, _) => 
  (bif (decide ((v4 : Int) < (o5.1.l.length : Int))) && (decide ((v4 : Int) < (o6.1.l.length : Int))) then 
  (ix o5.1.l v4).bind fun x9 => 
  (ix o6.1.l v4).bind fun x10 => 
  (self_espalierref_OrderOf ((Ev.Val.mk x9.kind x9.n x9.s x9.l), (Ev.Val.mk x10.kind x10.n x10.s x10.l), ())).bind fun (y11, _) => 
  (bif (y11 : Int) != 0 then kr (y11, ())
  else rec (IntKind.wrap .i64 (v4 + 1), ((Ev.Val.mk o5.1.kind o5.1.n o5.1.s o5.1.l), ()), ((Ev.Val.mk o6.1.kind o6.1.n o6.1.s o6.1.l), ()), ()))
  else kx (((Ev.Val.mk o5.1.kind o5.1.n o5.1.s o5.1.l), ()), ((Ev.Val.mk o6.1.kind o6.1.n o6.1.s o6.1.l), ()), ()))

/-- espalierref.OrderOf -/
noncomputable def espalierref_OrderOf_b (self_espalierref_OrderOf : Ev.Val × Ev.Val × Unit → Option (Int × Unit)) (n : Nat) : Ev.Val × Ev.Val × Unit → Option (Int × Unit) :=
  fun (a1, a2, _) => 
  (bif decide ((a1.kind : Int) < a2.kind) then some ((-1), ())
  else 
  (bif decide ((a1.kind : Int) > a2.kind) then some (1, ())
  else 
  (bif decide ((a1.n : Int) < a2.n) then some ((-1), ())
  else 
  (bif decide ((a1.n : Int) > a2.n) then some (1, ())
  else 
  (bif !(seq a1.s a2.s) then 
  (bytes_Compare (bytesI a1.s, bytesI a2.s, ())).bind fun (y3, _) => some (y3, ())
  else 
  iterN (fun rc15 => espalierref_OrderOf_s1 self_espalierref_OrderOf n rc15 (fun (o12, o13, _) => 
  (bif decide (((o12.1.l.length : Int) : Int) < (o13.1.l.length : Int)) then some ((-1), ())
  else 
  (bif decide (((o12.1.l.length : Int) : Int) > (o13.1.l.length : Int)) then some (1, ())
  else some (0, ())))) (fun (v14, _) => some (v14, ()))) (n) (0, ((Ev.Val.mk a1.kind a1.n a1.s a1.l), ()), ((Ev.Val.mk a2.kind a2.n a2.s a2.l), ()), ()))))))

noncomputable def espalierref_OrderOf : Nat → Ev.Val × Ev.Val × Unit → Option (Int × Unit)
  | 0, _ => none
  | n + 1, x => espalierref_OrderOf_b (espalierref_OrderOf n) n x

/-- espalierref.SameValue -/
noncomputable def espalierref_SameValue (n : Nat) : Ev.Val × Ev.Val × Unit → Option (Bool × Unit) :=
  fun (a1, a2, _) => 
  (espalierref_OrderOf n ((Ev.Val.mk a1.kind a1.n a1.s a1.l), (Ev.Val.mk a2.kind a2.n a2.s a2.l), ())).bind fun (y3, _) => some ((y3 : Int) == 0, ())

/-- espalierlaw.none -/
noncomputable def espalierlaw_none (n : Nat) : Ev.Val × Unit → Option (Bool × Unit) :=
  fun (a1, _) => 
  (espalierref_SameValue n ((Ev.Val.mk a1.kind a1.n a1.s a1.l), (Ev.Val.mk 0 0 (⟨#[]⟩ : ByteArray) ([] : List Ev.Val)), ())).bind fun (y2, _) => some (y2, ())

/-- espalierlaw.CodeValue -/
noncomputable def espalierlaw_CodeValue (n : Nat) : ByteArray × Unit → Option (Bool × Unit) :=
  fun (a1, _) => 
  (code_Value n (a1, ())).bind fun (y2, y3, _) => 
  (code_Long n (a1, ())).bind fun (y4, y5, _) => 
  (espalierref_LongOf n (a1, ())).bind fun (y6, y7, y8, _) => 
  (espalierlaw_coded n (())).bind fun (y9, _) => 
  (bif ((!y9) || ((y4 : Int) != y7)) || (!(y5 == y8)) then some (false, ())
  else 
  (bif decide (((a1.size : Int) : Int) > 8000) then 
  (bif (y3 : Int) == 2 then 
  (espalierlaw_none n ((Ev.Val.mk y2.kind y2.n y2.s y2.l), ())).bind fun (y10, _) => some (y10, ())
  else some (false, ()))
  else 
  (bif (!y8) || ((y7 : Int) != (a1.size : Int)) then 
  (bif (y3 : Int) == 11 then 
  (espalierlaw_none n ((Ev.Val.mk y2.kind y2.n y2.s y2.l), ())).bind fun (y11, _) => some (y11, ())
  else some (false, ()))
  else 
  (bif (y3 : Int) == 0 then 
  (espalierref_SameValue n ((Ev.Val.mk y2.kind y2.n y2.s y2.l), (Ev.Val.mk y6.kind y6.n y6.s y6.l), ())).bind fun (y12, _) => some (y12, ())
  else some (false, ())))))

/-- espalierlaw.CodeBack -/
noncomputable def espalierlaw_CodeBack (n : Nat) : Ev.Val × ByteArray × Unit → Option (Bool × Unit) :=
  fun (a1, a2, _) => 
  (code_Bytes n ((Ev.Val.mk a1.kind a1.n a1.s a1.l), ())).bind fun (y3, y4, _) => 
  (espalierlaw_coded n (())).bind fun (y5, _) => 
  (bif (!y5) || ((y4 : Int) != 0) then 
  (espalierlaw_coded n (())).bind fun (y6, _) => some (y6, ())
  else 
  (code_Value n (y3, ())).bind fun (y7, y8, _) => 
  (cat? y3 a2).bind fun s9 => 
  (code_Long n (s9, ())).bind fun (y10, y11, _) => 
  (bif (y8 : Int) == 0 then 
  (espalierref_SameValue n ((Ev.Val.mk a1.kind a1.n a1.s a1.l), (Ev.Val.mk y7.kind y7.n y7.s y7.l), ())).bind fun (y12, _) => some ((y12 && y11) && ((y10 : Int) == (y3.size : Int)), ())
  else some (false, ())))

/-- a round of a loop of espalierlaw.CodeSplits -/
noncomputable def espalierlaw_CodeSplits_s0 {ρ : Type} (n : Nat) (rec : ByteArray × (List Ev.Val) × Int × Int × (List Ev.Val) × Unit → Option ρ) (kx : ByteArray × (List Ev.Val) × Unit → Option ρ) (kr : Unit → Option ρ) : ByteArray × (List Ev.Val) × Int × Int × (List Ev.Val) × Unit → Option ρ :=
  fun (v2, v3, v4, v5, o6, _) => 
  (bif decide ((v5 : Int) < v4) then 
  (ix v3 v5).bind fun x7 => 
  (code_Bytes n ((Ev.Val.mk x7.kind x7.n x7.s x7.l), ())).bind fun (y8, y9, _) => 
  (bif ((y9 : Int) == 0) && (decide (((v2.size : Int) : Int) < 2000)) then 
  (cat? v2 y8).bind fun s10 => 
  ck (room (o6 ++ ([(Ev.Val.mk x7.kind x7.n x7.s x7.l)] : List Ev.Val)).length 56) (rec (s10, v3, v4, IntKind.wrap .i64 (v5 + 1), o6 ++ ([(Ev.Val.mk x7.kind x7.n x7.s x7.l)] : List Ev.Val), ()))
  else rec (v2, v3, v4, IntKind.wrap .i64 (v5 + 1), o6, ()))
  else kx (v2, o6, ()))

/-- a round of a loop of espalierlaw.CodeSplits -/
noncomputable def espalierlaw_CodeSplits_s2 {ρ : Type} (n : Nat) (rec : ByteArray × (List Ev.Val) × Int × Int × Unit → Option ρ) (kx : ByteArray × Unit → Option ρ) (kr : Bool × Unit → Option ρ) : ByteArray × (List Ev.Val) × Int × Int × Unit → Option ρ :=
  fun (v13, v14, v15, v16, _) => 
  (bif decide ((v16 : Int) < v15) then 
  (ix v14 v16).bind fun x17 => 
  (code_Long n (v13, ())).bind fun (y18, y19, _) => 
  (bif (!y19) || (decide ((y18 : Int) > (v13.size : Int))) then kr (false, ())
  else 
  (ssl v13 0 y18).bind fun s20 => 
  (code_Value n (s20, ())).bind fun (y21, y22, _) => 
  (bif (y22 : Int) != 0 then kr (false, ())
  else 
  (espalierref_SameValue n ((Ev.Val.mk x17.kind x17.n x17.s x17.l), (Ev.Val.mk y21.kind y21.n y21.s y21.l), ())).bind fun (y23, _) => 
  (bif !y23 then kr (false, ())
  else 
  (ssl v13 y18 (v13.size : Int)).bind fun s24 => rec (s24, v14, v15, IntKind.wrap .i64 (v16 + 1), ()))))
  else kx (v13, ()))

/-- espalierlaw.CodeSplits -/
noncomputable def espalierlaw_CodeSplits (n : Nat) : (List Ev.Val) × Unit → Option (Bool × Unit) :=
  fun (a1, _) => 
  iterN (fun rc29 => espalierlaw_CodeSplits_s0 n rc29 (fun (v11, o12, _) => 
  iterN (fun rc28 => espalierlaw_CodeSplits_s2 n rc28 (fun (v25, _) => 
  (espalierlaw_coded n (())).bind fun (y27, _) => some (y27 && (seq v25 (⟨#[]⟩ : ByteArray)), ())) (fun (v26, _) => some (v26, ()))) (n) (v11, o12, (o12.length : Int), 0, ())) (fun (_) => none)) (n) ((⟨#[]⟩ : ByteArray), a1, (a1.length : Int), 0, ([] : List Ev.Val), ())

/-- a round of a loop of code.Frames -/
noncomputable def code_Frames_s0 {ρ : Type} (n : Nat) (rec : ByteArray × Int × (List ByteArray) × Unit → Option ρ) (kx : Unit → Option ρ) (kr : Int × Int × (List ByteArray) × Unit → Option ρ) : ByteArray × Int × (List ByteArray) × Unit → Option ρ :=
  fun (v2, v3, o4, _) => 
  (ssl v2 v3 (v2.size : Int)).bind fun s5 => 
  (bif decide (((s5.size : Int) : Int) < 8) then kr (v3, 0, o4, ())
  else 
  (ssl s5 0 8).bind fun s6 => 
  (lsl (bytesI s6) 0 4).bind fun l7 => 
  (code_numberOf n (l7, ())).bind fun (y8, _) => 
  (bif (((IntKind.wrap .i64 (y8) : Int) == 0) || (decide ((IntKind.wrap .i64 (y8) : Int) > 8000))) || (decide ((IntKind.wrap .i64 (y8) : Int) > (IntKind.wrap .i64 ((s5.size : Int) - 8)))) then kr (v3, 0, o4, ())
  else 
  (ssl s5 8 (IntKind.wrap .i64 (8 + (IntKind.wrap .i64 (y8))))).bind fun s9 => 
  (code_sum n (s9, ())).bind fun (y10, _) => 
  (lsl (bytesI s6) 4 ((bytesI s6).length : Int)).bind fun l11 => 
  (code_numberOf n (l11, ())).bind fun (y12, _) => 
  (bif (y10 : Int) != y12 then kr (v3, 0, o4, ())
  else 
  (ssl s5 8 (IntKind.wrap .i64 (8 + (IntKind.wrap .i64 (y8))))).bind fun s13 => 
  ck (room (o4 ++ ([s13] : List ByteArray)).length 16) (rec (v2, IntKind.wrap .i64 (v3 + (IntKind.wrap .i64 (8 + (IntKind.wrap .i64 (y8))))), o4 ++ ([s13] : List ByteArray), ())))))

/-- code.Frames -/
noncomputable def code_Frames (n : Nat) : ByteArray × Unit → Option ((List ByteArray) × Int × Int × Unit) :=
  fun (a1, _) => 
  (bif decide (((a1.size : Int) : Int) > 16000) then some (([] : List ByteArray), 0, 2, ())
  else 
  iterN (fun rc17 => code_Frames_s0 n rc17 (fun (_) => none) (fun (v14, v15, o16, _) => some (o16, v14, v15, ()))) (n) (a1, 0, ([] : List ByteArray), ()))

/-- a round of a loop of espalierref.high -/
noncomputable def espalierref_high_s0 {ρ : Type} (n : Nat) (rec : Int × ByteArray × Int × Int × Unit → Option ρ) (kx : ByteArray × Unit → Option ρ) (kr : Unit → Option ρ) : Int × ByteArray × Int × Int × Unit → Option ρ :=
  fun (v3, v4, v5, v6, _) => 
  (bif decide ((v6 : Int) < v5) then 
  (str? ([IntKind.wrap .u8 (brem .u64 v3 256)] : List Int)).bind fun s7 => 
  (cat? s7 v4).bind fun s8 => rec (bquo .u64 v3 256, s8, v5, IntKind.wrap .i64 (v6 + 1), ())
  else kx (v4, ()))

/-- espalierref.high -/
noncomputable def espalierref_high (n : Nat) : Int × Int × Unit → Option (ByteArray × Unit) :=
  fun (a1, a2, _) => 
  iterN (fun rc10 => espalierref_high_s0 n rc10 (fun (v9, _) => some (v9, ())) (fun (_) => none)) (n) (a1, (⟨#[]⟩ : ByteArray), a2, 0, ())

/-- a round of a loop of espalierref.crcOf -/
noncomputable def espalierref_crcOf_s2 {ρ : Type} (n : Nat) (rec : ByteArray × Int × Int × Int × Int × Unit → Option ρ) (kx : ByteArray × Int × Int × Int × Unit → Option ρ) (kr : Unit → Option ρ) : ByteArray × Int × Int × Int × Int × Unit → Option ρ :=
  fun (v7, v8, v9, v10, v11, _) => 
  (bif decide ((v11 : Int) < 8) then 
  (bif (brem .u32 v8 2 : Int) == 1 then rec (v7, bxor .u32 (bquo .u32 v8 2) 3988292384, v9, v10, IntKind.wrap .i64 (v11 + 1), ())
  else rec (v7, bquo .u32 v8 2, v9, v10, IntKind.wrap .i64 (v11 + 1), ()))
  else kx (v7, v8, v9, v10, ()))

/-- a round of a loop of espalierref.crcOf -/
noncomputable def espalierref_crcOf_s0 {ρ : Type} (n : Nat) (rec : ByteArray × Int × Int × Int × Unit → Option ρ) (kx : Int × Unit → Option ρ) (kr : Unit → Option ρ) : ByteArray × Int × Int × Int × Unit → Option ρ :=
  fun (v2, v3, v4, v5, _) => 
  (bif decide ((v5 : Int) < v4) then 
  (sat v2 v5).bind fun c6 => 
  iterN (fun rc16 => espalierref_crcOf_s2 n rc16 (fun (v12, v13, v14, v15, _) => rec (v12, v13, v14, IntKind.wrap .i64 (v15 + 1), ())) (fun (_) => none)) (n) (v2, bxor .u32 v3 (IntKind.wrap .u32 (c6)), v4, v5, 0, ())
  else kx (v3, ()))

/-- espalierref.crcOf -/
noncomputable def espalierref_crcOf (n : Nat) : ByteArray × Unit → Option (Int × Unit) :=
  fun (a1, _) => 
  iterN (fun rc18 => espalierref_crcOf_s0 n rc18 (fun (v17, _) => some (bnot .u32 v17, ())) (fun (_) => none)) (n) (a1, 4294967295, (a1.size : Int), 0, ())

/-- espalierref.FrameOf -/
noncomputable def espalierref_FrameOf (n : Nat) : ByteArray × Unit → Option (ByteArray × Unit) :=
  fun (a1, _) => 
  (espalierref_high n (IntKind.wrap .u64 ((a1.size : Int)), 4, ())).bind fun (y2, _) => 
  (espalierref_crcOf n (a1, ())).bind fun (y3, _) => 
  (espalierref_high n (IntKind.wrap .u64 (y3), 4, ())).bind fun (y4, _) => 
  (cat? y2 y4).bind fun s5 => 
  (cat? s5 a1).bind fun s6 => some (s6, ())

/-- a round of a loop of espalierref.FramesOf -/
noncomputable def espalierref_FramesOf_s0 {ρ : Type} (n : Nat) (rec : ByteArray × Int × Int × (List ByteArray) × Unit → Option ρ) (kx : Int × (List ByteArray) × Unit → Option ρ) (kr : Unit → Option ρ) : ByteArray × Int × Int × (List ByteArray) × Unit → Option ρ :=
  fun (v2, v3, v4, o5, _) => 
  (bif decide ((v4 : Int) > 8) then 
  (ssl v2 v3 (IntKind.wrap .i64 (v3 + 4))).bind fun s6 => 
  (espalierref_ofHigh n (s6, ())).bind fun (y7, _) => 
  (bif ((decide ((IntKind.wrap .i64 (y7) : Int) < 1)) || (decide ((IntKind.wrap .i64 (y7) : Int) > 8000))) || (decide ((IntKind.wrap .i64 (y7) : Int) > (IntKind.wrap .i64 (v4 - 8)))) then kx (v3, o5, ())
  else 
  (ssl v2 (IntKind.wrap .i64 (v3 + 8)) (IntKind.wrap .i64 ((IntKind.wrap .i64 (v3 + 8)) + (IntKind.wrap .i64 (y7))))).bind fun s8 => 
  (espalierref_FrameOf n (s8, ())).bind fun (y9, _) => 
  (ssl v2 v3 (IntKind.wrap .i64 ((IntKind.wrap .i64 (v3 + 8)) + (IntKind.wrap .i64 (y7))))).bind fun s10 => 
  (bif !(seq y9 s10) then kx (v3, o5, ())
  else 
  (ssl v2 (IntKind.wrap .i64 (v3 + 8)) (IntKind.wrap .i64 ((IntKind.wrap .i64 (v3 + 8)) + (IntKind.wrap .i64 (y7))))).bind fun s11 => 
  ck (room (o5 ++ ([s11] : List ByteArray)).length 16) (rec (v2, IntKind.wrap .i64 (v3 + (IntKind.wrap .i64 (8 + (IntKind.wrap .i64 (y7))))), IntKind.wrap .i64 ((v2.size : Int) - (IntKind.wrap .i64 (v3 + (IntKind.wrap .i64 (8 + (IntKind.wrap .i64 (y7))))))), o5 ++ ([s11] : List ByteArray), ()))))
  else kx (v3, o5, ()))

/-- espalierref.FramesOf -/
noncomputable def espalierref_FramesOf (n : Nat) : ByteArray × Unit → Option ((List ByteArray) × Int × Unit) :=
  fun (a1, _) => 
  iterN (fun rc14 => espalierref_FramesOf_s0 n rc14 (fun (v12, o13, _) => some (o13, v12, ())) (fun (_) => none)) (n) (a1, 0, IntKind.wrap .i64 ((a1.size : Int) - 0), ([] : List ByteArray), ())

/-- a round of a loop of slices.Equal   string,string  -/
noncomputable def slices_Equal_string_string_s0 {ρ : Type} (n : Nat) (rec : (List ByteArray) × (List ByteArray) × Int × Int × Unit → Option ρ) (kx : Unit → Option ρ) (kr : Bool × Unit → Option ρ) : (List ByteArray) × (List ByteArray) × Int × Int × Unit → Option ρ :=
  fun (v3, v4, v5, v6, _) => 
  (bif decide ((v6 : Int) < v5) then 
  (ix v3 v6).bind fun x9 => 
  (ix v4 v6).bind fun x10 => 
  (bif !(seq x9 x10) then kr (false, ())
  else rec (v3, v4, v5, IntKind.wrap .i64 (v6 + 1), ()))
  else kx (()))

/-- slices.Equal   string,string  -/
noncomputable def slices_Equal_string_string (n : Nat) : (List ByteArray) × (List ByteArray) × Unit → Option (Bool × Unit) :=
  fun (a1, a2, _) => 
  (bif ((a1.length : Int) : Int) != (a2.length : Int) then some (false, ())
  else 
  iterN (fun rc12 => slices_Equal_string_string_s0 n rc12 (fun (_) => some (true, ())) (fun (v11, _) => some (v11, ()))) (n) (a1, a2, (a1.length : Int), 0, ()))

/-- espalierlaw.CodeFrame -/
noncomputable def espalierlaw_CodeFrame (n : Nat) : ByteArray × ByteArray × Unit → Option (Bool × Unit) :=
  fun (a1, a2, _) => 
  (code_Frame n (a1, ())).bind fun (y3, y4, _) => 
  (code_Frames n (a2, ())).bind fun (y5, y6, y7, _) => 
  (espalierlaw_coded n (())).bind fun (y8, _) => 
  (bif !y8 then some (false, ())
  else 
  (bif seq a1 (⟨#[]⟩ : ByteArray) then 
  (bif ((y4 : Int) != 6) || (!(seq y3 (⟨#[]⟩ : ByteArray))) then some (false, ())
  else 
  (bif decide (((a2.size : Int) : Int) > 16000) then some ((((y7 : Int) == 2) && ((y6 : Int) == 0)) && (((y5.length : Int) : Int) == 0), ())
  else 
  (espalierref_FramesOf n (a2, ())).bind fun (y9, y10, _) => 
  (bif ((y7 : Int) == 0) && ((y6 : Int) == y10) then 
  (slices_Equal_string_string n (y5, y9, ())).bind fun (y11, _) => some (y11, ())
  else some (false, ()))))
  else 
  (bif decide (((a1.size : Int) : Int) > 8000) then 
  (bif ((y4 : Int) != 2) || (!(seq y3 (⟨#[]⟩ : ByteArray))) then some (false, ())
  else 
  (bif decide (((a2.size : Int) : Int) > 16000) then some ((((y7 : Int) == 2) && ((y6 : Int) == 0)) && (((y5.length : Int) : Int) == 0), ())
  else 
  (espalierref_FramesOf n (a2, ())).bind fun (y12, y13, _) => 
  (bif ((y7 : Int) == 0) && ((y6 : Int) == y13) then 
  (slices_Equal_string_string n (y5, y12, ())).bind fun (y14, _) => some (y14, ())
  else some (false, ()))))
  else 
  (bif (y4 : Int) != 0 then some (false, ())
  else 
  (espalierref_FrameOf n (a1, ())).bind fun (y15, _) => 
  (bif !(seq y3 y15) then some (false, ())
  else 
  (bif decide (((a2.size : Int) : Int) > 16000) then some ((((y7 : Int) == 2) && ((y6 : Int) == 0)) && (((y5.length : Int) : Int) == 0), ())
  else 
  (espalierref_FramesOf n (a2, ())).bind fun (y16, y17, _) => 
  (bif ((y7 : Int) == 0) && ((y6 : Int) == y17) then 
  (slices_Equal_string_string n (y5, y16, ())).bind fun (y18, _) => some (y18, ())
  else some (false, ()))))))))

/-- espalierlaw.CodeInts -/
noncomputable def espalierlaw_CodeInts (n : Nat) : Int × Int × Unit → Option (Bool × Unit) :=
  fun (a1, a2, _) => 
  (espalierlaw_num (a1, ())).bind fun (y3, _) => 
  (code_Bytes n ((Ev.Val.mk y3.kind y3.n y3.s y3.l), ())).bind fun (y4, y5, _) => 
  (espalierlaw_num (a2, ())).bind fun (y6, _) => 
  (code_Bytes n ((Ev.Val.mk y6.kind y6.n y6.s y6.l), ())).bind fun (y7, y8, _) => 
  (espalierlaw_coded n (())).bind fun (y9, _) => some ((((y9 && ((y5 : Int) == 0)) && ((y8 : Int) == 0)) && ((decide ((a1 : Int) < a2)) == (sless y4 y7))) && (((a1 : Int) == a2) == (seq y4 y7)), ())

end Pure

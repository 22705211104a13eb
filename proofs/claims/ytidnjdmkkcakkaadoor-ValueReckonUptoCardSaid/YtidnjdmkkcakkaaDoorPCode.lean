/- Plain functions that compute what functions of the program compute (written by gen.py). -/
import Derived.Test.YtidnjdmkkcakkaaDoorEvLib
import Derived.Test.YtidnjdmkkcakkaaDoorPRange
import Derived.Test.YtidnjdmkkcakkaaDoorEvBuild2
import Derived.Test.YtidnjdmkkcakkaaDoorEvBuild3
namespace Pure
open Esp Ev Go
set_option linter.unusedSimpArgs false
set_option linter.unusedVariables false

/-- value.add -/
noncomputable def value_add : Int × Int × Unit → Option (Int × Bool × Unit) :=
  fun (a1, a2, _) => some (IntKind.wrap .i64 (a1 + a2), (decide ((IntKind.wrap .i64 (a1 + a2) : Int) > a1)) == (decide ((a2 : Int) > 0)), ())

/-- a round of a loop of value.Copy -/
noncomputable def value_Copy_s0 {ρ : Type} (self_value_Copy : Ev.Val × Unit → Option (Ev.Val × Unit)) (n : Nat) (rec : (List Ev.Val) × Int × Int × (Int × Int × ByteArray × Unit) × (Ev.Val × Unit) × (List Ev.Val) × Unit → Option ρ) (kx : (Int × Int × ByteArray × Unit) × (Ev.Val × Unit) × (List Ev.Val) × Unit → Option ρ) (kr : Unit → Option ρ) : (List Ev.Val) × Int × Int × (Int × Int × ByteArray × Unit) × (Ev.Val × Unit) × (List Ev.Val) × Unit → Option ρ :=
  fun (v2, v3, v4, o5, o6, o7, _) => 
  (bif decide ((v4 : Int) < v3) then 
  (ix v2 v4).bind fun x8 => 
  (self_value_Copy ((Ev.Val.mk x8.kind x8.n x8.s x8.l), ())).bind fun (y10, _) => 
  ck (room (o7 ++ ([(Ev.Val.mk y10.kind y10.n y10.s y10.l)] : List Ev.Val)).length 56) (rec (v2, v3, IntKind.wrap .i64 (v4 + 1), (o5.1, o5.2.1, o5.2.2.1, ()), ((Ev.Val.mk o6.1.kind o6.1.n o6.1.s o6.1.l), ()), o7 ++ ([(Ev.Val.mk y10.kind y10.n y10.s y10.l)] : List Ev.Val), ()))
  else kx ((o5.1, o5.2.1, o5.2.2.1, ()), ((Ev.Val.mk o6.1.kind o6.1.n o6.1.s o6.1.l), ()), o7, ()))

noncomputable def F_value_Copy_s0 {ρ : Type} (self_value_Copy : Ev.Val × Unit → Option (Ev.Val × Unit)) (n : Nat) (kr : Unit → Option ρ) : Int → Ev.Val → ((Int × Int × ByteArray × Unit) × (Ev.Val × Unit) × (List Ev.Val) × Unit) → (((Int × Int × ByteArray × Unit) × (Ev.Val × Unit) × (List Ev.Val) × Unit) → Option ρ) → Option ρ :=
  fun v4 x8 (o5, o6, o7, _) rec =>  
  (self_value_Copy ((Ev.Val.mk x8.kind x8.n x8.s x8.l), ())).bind fun (y10, _) => 
  ck (room (o7 ++ ([(Ev.Val.mk y10.kind y10.n y10.s y10.l)] : List Ev.Val)).length 56) (rec ((o5.1, o5.2.1, o5.2.2.1, ()), ((Ev.Val.mk o6.1.kind o6.1.n o6.1.s o6.1.l), ()), o7 ++ ([(Ev.Val.mk y10.kind y10.n y10.s y10.l)] : List Ev.Val), ()))

theorem R_value_Copy_s0 {ρ : Type} (self_value_Copy : Ev.Val × Unit → Option (Ev.Val × Unit)) (n : Nat) (kx : (Int × Int × ByteArray × Unit) × (Ev.Val × Unit) × (List Ev.Val) × Unit → Option ρ) (kr : Unit → Option ρ) (l : List Ev.Val) (fuel : Nat) (o5 : Int × Int × ByteArray × Unit) (o6 : Ev.Val × Unit) (o7 : List Ev.Val) (hl : l.length ≤ 9223372036854775807) (hf : l.length < fuel) :
    iterN (fun rc => value_Copy_s0 self_value_Copy n rc kx kr) fuel (l, (l.length : Int), 0, o5, o6, o7, ()) = foldK (F_value_Copy_s0 self_value_Copy n kr) (fun (o5, o6, o7, _) => kx ((o5.1, o5.2.1, o5.2.2.1, ()), ((Ev.Val.mk o6.1.kind o6.1.n o6.1.s o6.1.l), ()), o7, ())) 0 l (o5, o6, o7, ()) :=
  range_listM l (fun i (o5, o6, o7, _) => (l, (l.length : Int), i, o5, o6, o7, ())) _ _ _ (fun rec i s => rfl) hl fuel (o5, o6, o7, ()) hf

/-- value.Copy -/
noncomputable def value_Copy_b (self_value_Copy : Ev.Val × Unit → Option (Ev.Val × Unit)) (n : Nat) : Ev.Val × Unit → Option (Ev.Val × Unit) :=
  fun (a1, _) => 
  iterN (fun rc14 => value_Copy_s0 self_value_Copy n rc14 (fun (o11, o12, o13, _) => some ((Ev.Val.mk o11.1 o11.2.1 o11.2.2.1 o13), ())) (fun (_) => none)) (n) (a1.l, (a1.l.length : Int), 0, (a1.kind, a1.n, a1.s, ()), ((Ev.Val.mk 0 0 (⟨#[]⟩ : ByteArray) ([] : List Ev.Val)), ()), ([] : List Ev.Val), ())

noncomputable def value_Copy : Nat → Ev.Val × Unit → Option (Ev.Val × Unit)
  | 0, _ => none
  | n + 1, x => value_Copy_b (value_Copy n) n x

/-- a round of a loop of value.Copy -/
noncomputable def value_Copy_own_s0 {ρ : Type} (n : Nat) (rec : (List Ev.Val) × Int × Int × (Int × Int × ByteArray × Unit) × (Ev.Val × Unit) × (List Ev.Val) × Unit → Option ρ) (kx : (Int × Int × ByteArray × Unit) × (Ev.Val × Unit) × (List Ev.Val) × Unit → Option ρ) (kr : Unit → Option ρ) : (List Ev.Val) × Int × Int × (Int × Int × ByteArray × Unit) × (Ev.Val × Unit) × (List Ev.Val) × Unit → Option ρ :=
  fun (v2, v3, v4, o5, o6, o7, _) => 
  (bif decide ((v4 : Int) < v3) then 
  (ix v2 v4).bind fun x8 => 
  (value_Copy n ((Ev.Val.mk x8.kind x8.n x8.s x8.l), ())).bind fun (y10, _) => 
  ck (room (o7 ++ ([(Ev.Val.mk y10.kind y10.n y10.s y10.l)] : List Ev.Val)).length 56) (rec (v2, v3, IntKind.wrap .i64 (v4 + 1), (o5.1, o5.2.1, o5.2.2.1, ()), ((Ev.Val.mk o6.1.kind o6.1.n o6.1.s o6.1.l), ()), o7 ++ ([(Ev.Val.mk y10.kind y10.n y10.s y10.l)] : List Ev.Val), ()))
  else kx ((o5.1, o5.2.1, o5.2.2.1, ()), ((Ev.Val.mk o6.1.kind o6.1.n o6.1.s o6.1.l), ()), o7, ()))

noncomputable def F_value_Copy_own_s0 {ρ : Type} (n : Nat) (kr : Unit → Option ρ) : Int → Ev.Val → ((Int × Int × ByteArray × Unit) × (Ev.Val × Unit) × (List Ev.Val) × Unit) → (((Int × Int × ByteArray × Unit) × (Ev.Val × Unit) × (List Ev.Val) × Unit) → Option ρ) → Option ρ :=
  fun v4 x8 (o5, o6, o7, _) rec =>  
  (value_Copy n ((Ev.Val.mk x8.kind x8.n x8.s x8.l), ())).bind fun (y10, _) => 
  ck (room (o7 ++ ([(Ev.Val.mk y10.kind y10.n y10.s y10.l)] : List Ev.Val)).length 56) (rec ((o5.1, o5.2.1, o5.2.2.1, ()), ((Ev.Val.mk o6.1.kind o6.1.n o6.1.s o6.1.l), ()), o7 ++ ([(Ev.Val.mk y10.kind y10.n y10.s y10.l)] : List Ev.Val), ()))

theorem R_value_Copy_own_s0 {ρ : Type} (n : Nat) (kx : (Int × Int × ByteArray × Unit) × (Ev.Val × Unit) × (List Ev.Val) × Unit → Option ρ) (kr : Unit → Option ρ) (l : List Ev.Val) (fuel : Nat) (o5 : Int × Int × ByteArray × Unit) (o6 : Ev.Val × Unit) (o7 : List Ev.Val) (hl : l.length ≤ 9223372036854775807) (hf : l.length < fuel) :
    iterN (fun rc => value_Copy_own_s0 n rc kx kr) fuel (l, (l.length : Int), 0, o5, o6, o7, ()) = foldK (F_value_Copy_own_s0 n kr) (fun (o5, o6, o7, _) => kx ((o5.1, o5.2.1, o5.2.2.1, ()), ((Ev.Val.mk o6.1.kind o6.1.n o6.1.s o6.1.l), ()), o7, ())) 0 l (o5, o6, o7, ()) :=
  range_listM l (fun i (o5, o6, o7, _) => (l, (l.length : Int), i, o5, o6, o7, ())) _ _ _ (fun rec i s => rfl) hl fuel (o5, o6, o7, ()) hf

/-- value.Copy -/
noncomputable def value_Copy_own (n : Nat) : Ev.Val × Unit → Option ((Int × Int × ByteArray × Unit) × (List Ev.Val) × Unit) :=
  fun (a1, _) => 
  iterN (fun rc14 => value_Copy_own_s0 n rc14 (fun (o11, o12, o13, _) => some ((o11.1, o11.2.1, o11.2.2.1, ()), o13, ())) (fun (_) => none)) (n) (a1.l, (a1.l.length : Int), 0, (a1.kind, a1.n, a1.s, ()), ((Ev.Val.mk 0 0 (⟨#[]⟩ : ByteArray) ([] : List Ev.Val)), ()), ([] : List Ev.Val), ())

/-- value.sub -/
noncomputable def value_sub : Int × Int × Unit → Option (Int × Bool × Unit) :=
  fun (a1, a2, _) => some (IntKind.wrap .i64 (a1 - a2), (decide ((IntKind.wrap .i64 (a1 - a2) : Int) < a1)) == (decide ((a2 : Int) > 0)), ())

/-- value.mul$1 -/
noncomputable def value_mul_1 : Int × Unit → Option (Int × Unit) :=
  fun (a1, _) => 
  (bif decide ((a1 : Int) < 0) then some (IntKind.wrap .u64 (0 - (IntKind.wrap .u64 (a1))), ())
  else some (IntKind.wrap .u64 (a1), ()))

/-- math.bits.Mul64 -/
noncomputable def math_bits_Mul64 : Int × Int × Unit → Option (Int × Int × Unit) :=
  fun (a1, a2, _) => some (IntKind.wrap .u64 ((IntKind.wrap .u64 ((IntKind.wrap .u64 ((bshr .u64 a1 32) * (bshr .u64 a2 32))) + (bshr .u64 (IntKind.wrap .u64 ((IntKind.wrap .u64 ((bshr .u64 a1 32) * (band .u64 a2 4294967295))) + (bshr .u64 (IntKind.wrap .u64 ((band .u64 a1 4294967295) * (band .u64 a2 4294967295))) 32))) 32))) + (bshr .u64 (IntKind.wrap .u64 ((band .u64 (IntKind.wrap .u64 ((IntKind.wrap .u64 ((bshr .u64 a1 32) * (band .u64 a2 4294967295))) + (bshr .u64 (IntKind.wrap .u64 ((band .u64 a1 4294967295) * (band .u64 a2 4294967295))) 32))) 4294967295) + (IntKind.wrap .u64 ((band .u64 a1 4294967295) * (bshr .u64 a2 32))))) 32)), IntKind.wrap .u64 (a1 * a2), ())

/-- value.mul -/
noncomputable def value_mul : Int × Int × Unit → Option (Int × Bool × Unit) :=
  fun (a1, a2, _) => 
  (value_mul_1 (a1, ())).bind fun (y3, _) => 
  (value_mul_1 (a2, ())).bind fun (y4, _) => 
  (math_bits_Mul64 (y3, y4, ())).bind fun (y5, y6, _) => 
  (bif (((y5 : Int) != 0) || (decide ((y6 : Int) > 9223372036854775808))) || (((y6 : Int) == 9223372036854775808) && (!(!((decide ((a1 : Int) < 0)) == (decide ((a2 : Int) < 0)))))) then some (0, false, ())
  else 
  (bif !((decide ((a1 : Int) < 0)) == (decide ((a2 : Int) < 0))) then some (IntKind.wrap .i64 (IntKind.wrap .u64 (0 - y6)), true, ())
  else some (IntKind.wrap .i64 (y6), true, ())))

/-- value.Reckon -/
noncomputable def value_Reckon (n : Nat) : ByteArray × Ev.Val × Ev.Val × Unit → Option (Ev.Val × Int × Unit) :=
  fun (a1, a2, a3, _) => 
  (bif seq a1 (⟨#[43]⟩ : ByteArray) then 
  (bif ((a2.kind : Int) == 0) || ((a3.kind : Int) == 0) then some ((Ev.Val.mk 0 0 (⟨#[]⟩ : ByteArray) ([] : List Ev.Val)), 0, ())
  else 
  (bif ((a2.kind : Int) == 2) && ((a3.kind : Int) == 2) then 
  (value_add (a2.n, a3.n, ())).bind fun (y4, y5, _) => 
  (bif !y5 then some ((Ev.Val.mk 0 0 (⟨#[]⟩ : ByteArray) ([] : List Ev.Val)), 4, ())
  else some ((Ev.Val.mk 2 y4 (⟨#[]⟩ : ByteArray) ([] : List Ev.Val)), 0, ()))
  else 
  (bif ((seq a1 (⟨#[43]⟩ : ByteArray)) && ((a2.kind : Int) == 3)) && ((a3.kind : Int) == 3) then 
  (bif decide ((IntKind.wrap .i64 ((a2.s.size : Int) + (a3.s.size : Int)) : Int) > 4000) then some ((Ev.Val.mk 0 0 (⟨#[]⟩ : ByteArray) ([] : List Ev.Val)), 2, ())
  else 
  (cat? a2.s a3.s).bind fun s6 => some ((Ev.Val.mk 3 0 s6 ([] : List Ev.Val)), 0, ()))
  else 
  (bif ((seq a1 (⟨#[43]⟩ : ByteArray)) && ((a2.kind : Int) == 4)) && ((a3.kind : Int) == 4) then 
  (bif decide ((IntKind.wrap .i64 ((a2.l.length : Int) + (a3.l.length : Int)) : Int) > 30) then some ((Ev.Val.mk 0 0 (⟨#[]⟩ : ByteArray) ([] : List Ev.Val)), 2, ())
  else 
  (value_Copy_own n ((Ev.Val.mk a2.kind a2.n a2.s a2.l), ())).bind fun (y8, o9, _) => 
  (value_Copy_own n ((Ev.Val.mk a3.kind a3.n a3.s a3.l), ())).bind fun (y10, o11, _) => 
  ck (room (o9 ++ o11).length 56) (some ((Ev.Val.mk 4 0 (⟨#[]⟩ : ByteArray) (o9 ++ o11)), 0, ())))
  else some ((Ev.Val.mk 0 0 (⟨#[]⟩ : ByteArray) ([] : List Ev.Val)), 3, ())))))
  else 
  (bif seq a1 (⟨#[45]⟩ : ByteArray) then 
  (bif ((a2.kind : Int) == 0) || ((a3.kind : Int) == 0) then some ((Ev.Val.mk 0 0 (⟨#[]⟩ : ByteArray) ([] : List Ev.Val)), 0, ())
  else 
  (bif ((a2.kind : Int) == 2) && ((a3.kind : Int) == 2) then 
  (value_sub (a2.n, a3.n, ())).bind fun (y12, y13, _) => 
  (bif !y13 then some ((Ev.Val.mk 0 0 (⟨#[]⟩ : ByteArray) ([] : List Ev.Val)), 4, ())
  else some ((Ev.Val.mk 2 y12 (⟨#[]⟩ : ByteArray) ([] : List Ev.Val)), 0, ()))
  else 
  (bif ((seq a1 (⟨#[43]⟩ : ByteArray)) && ((a2.kind : Int) == 3)) && ((a3.kind : Int) == 3) then 
  (bif decide ((IntKind.wrap .i64 ((a2.s.size : Int) + (a3.s.size : Int)) : Int) > 4000) then some ((Ev.Val.mk 0 0 (⟨#[]⟩ : ByteArray) ([] : List Ev.Val)), 2, ())
  else 
  (cat? a2.s a3.s).bind fun s14 => some ((Ev.Val.mk 3 0 s14 ([] : List Ev.Val)), 0, ()))
  else 
  (bif ((seq a1 (⟨#[43]⟩ : ByteArray)) && ((a2.kind : Int) == 4)) && ((a3.kind : Int) == 4) then 
  (bif decide ((IntKind.wrap .i64 ((a2.l.length : Int) + (a3.l.length : Int)) : Int) > 30) then some ((Ev.Val.mk 0 0 (⟨#[]⟩ : ByteArray) ([] : List Ev.Val)), 2, ())
  else 
  (value_Copy_own n ((Ev.Val.mk a2.kind a2.n a2.s a2.l), ())).bind fun (y16, o17, _) => 
  (value_Copy_own n ((Ev.Val.mk a3.kind a3.n a3.s a3.l), ())).bind fun (y18, o19, _) => 
  ck (room (o17 ++ o19).length 56) (some ((Ev.Val.mk 4 0 (⟨#[]⟩ : ByteArray) (o17 ++ o19)), 0, ())))
  else some ((Ev.Val.mk 0 0 (⟨#[]⟩ : ByteArray) ([] : List Ev.Val)), 3, ())))))
  else 
  (bif seq a1 (⟨#[42]⟩ : ByteArray) then 
  (bif ((a2.kind : Int) == 0) || ((a3.kind : Int) == 0) then some ((Ev.Val.mk 0 0 (⟨#[]⟩ : ByteArray) ([] : List Ev.Val)), 0, ())
  else 
  (bif ((a2.kind : Int) == 2) && ((a3.kind : Int) == 2) then 
  (value_mul (a2.n, a3.n, ())).bind fun (y20, y21, _) => 
  (bif !y21 then some ((Ev.Val.mk 0 0 (⟨#[]⟩ : ByteArray) ([] : List Ev.Val)), 4, ())
  else some ((Ev.Val.mk 2 y20 (⟨#[]⟩ : ByteArray) ([] : List Ev.Val)), 0, ()))
  else 
  (bif ((seq a1 (⟨#[43]⟩ : ByteArray)) && ((a2.kind : Int) == 3)) && ((a3.kind : Int) == 3) then 
  (bif decide ((IntKind.wrap .i64 ((a2.s.size : Int) + (a3.s.size : Int)) : Int) > 4000) then some ((Ev.Val.mk 0 0 (⟨#[]⟩ : ByteArray) ([] : List Ev.Val)), 2, ())
  else 
  (cat? a2.s a3.s).bind fun s22 => some ((Ev.Val.mk 3 0 s22 ([] : List Ev.Val)), 0, ()))
  else 
  (bif ((seq a1 (⟨#[43]⟩ : ByteArray)) && ((a2.kind : Int) == 4)) && ((a3.kind : Int) == 4) then 
  (bif decide ((IntKind.wrap .i64 ((a2.l.length : Int) + (a3.l.length : Int)) : Int) > 30) then some ((Ev.Val.mk 0 0 (⟨#[]⟩ : ByteArray) ([] : List Ev.Val)), 2, ())
  else 
  (value_Copy_own n ((Ev.Val.mk a2.kind a2.n a2.s a2.l), ())).bind fun (y24, o25, _) => 
  (value_Copy_own n ((Ev.Val.mk a3.kind a3.n a3.s a3.l), ())).bind fun (y26, o27, _) => 
  ck (room (o25 ++ o27).length 56) (some ((Ev.Val.mk 4 0 (⟨#[]⟩ : ByteArray) (o25 ++ o27)), 0, ())))
  else some ((Ev.Val.mk 0 0 (⟨#[]⟩ : ByteArray) ([] : List Ev.Val)), 3, ())))))
  else some ((Ev.Val.mk 0 0 (⟨#[]⟩ : ByteArray) ([] : List Ev.Val)), 5, ()))))

/-- a round of a loop of espalierbig.trim -/
noncomputable def espalierbig_trim_s0 {ρ : Type} (n : Nat) (rec : (List Int) × Int × Unit → Option ρ) (kx : (List Int) × Int × Unit → Option ρ) (kr : Unit → Option ρ) : (List Int) × Int × Unit → Option ρ :=
  fun (v2, v3, _) => 
  (bif decide ((v3 : Int) > 0) then 
  (ix v2 (IntKind.wrap .i64 (v3 - 1))).bind fun x4 => 
  (bif (x4 : Int) == 0 then rec (v2, IntKind.wrap .i64 (v3 - 1), ())
  else kx (v2, v3, ()))
  else kx (v2, v3, ()))

/-- espalierbig.trim -/
noncomputable def espalierbig_trim (n : Nat) : (List Int) × Unit → Option ((List Int) × Unit) :=
  fun (a1, _) => 
  iterN (fun rc8 => espalierbig_trim_s0 n rc8 (fun (v5, v6, _) => 
  (lsl v5 0 v6).bind fun l7 => some (l7, ())) (fun (_) => none)) (n) (a1, (a1.length : Int), ())

/-- espalierbig.words -/
noncomputable def espalierbig_words (n : Nat) : Int × Unit → Option ((List Int) × Unit) :=
  fun (a1, _) => 
  (espalierbig_trim n (([IntKind.wrap .u32 (a1), IntKind.wrap .u32 (bshr .u64 a1 32)] : List Int), ())).bind fun (y2, _) => some (y2, ())

/-- (*espalierbig.Int).give -/
noncomputable def pespalierbig_Int_give : Bool × (List Int) × (Bool × (List Int) × Unit) × Unit → Option ((Bool × (List Int) × Unit) × Unit) :=
  fun (a1, a2, o3, _) => some ((a1 && (decide (((a2.length : Int) : Int) > 0)), a2, ()), ())

/-- (*espalierbig.Int).SetInt64 -/
noncomputable def pespalierbig_Int_SetInt64 (n : Nat) : Int × (Bool × (List Int) × Unit) × Unit → Option ((Bool × (List Int) × Unit) × Unit) :=
  fun (a1, o2, _) => 
  (bif decide ((a1 : Int) < 0) then 
  (espalierbig_words n (IntKind.wrap .u64 (0 - (IntKind.wrap .u64 (a1))), ())).bind fun (y3, _) => 
  (pespalierbig_Int_give (decide ((a1 : Int) < 0), y3, (o2.1, o2.2.1, ()), ())).bind fun (o4, _) => some ((o4.1, o4.2.1, ()), ())
  else 
  (espalierbig_words n (IntKind.wrap .u64 (a1), ())).bind fun (y5, _) => 
  (pespalierbig_Int_give (decide ((a1 : Int) < 0), y5, (o2.1, o2.2.1, ()), ())).bind fun (o6, _) => some ((o6.1, o6.2.1, ()), ()))

/-- espalierbig.NewInt -/
noncomputable def espalierbig_NewInt (n : Nat) : Int × Unit → Option ((Bool × (List Int) × Unit) × Unit) :=
  fun (a1, _) => 
  (pespalierbig_Int_SetInt64 n (a1, (false, ([] : List Int), ()), ())).bind fun (o2, _) => some ((o2.1, o2.2.1, ()), ())

/-- a round of a loop of espalierbig.add -/
noncomputable def espalierbig_add_s0 {ρ : Type} (n : Nat) (rec : (List Int) × (List Int) × Int × Int × (List Int) × Unit → Option ρ) (kx : (List Int) × Int × (List Int) × Unit → Option ρ) (kr : Unit → Option ρ) : (List Int) × (List Int) × Int × Int × (List Int) × Unit → Option ρ :=
  fun (v4, v5, v6, v7, o8, _) => 
  (bif decide ((v7 : Int) < (v4.length : Int)) then 
  (ix v4 v7).bind fun x9 => 
  (bif decide ((v7 : Int) < (v5.length : Int)) then 
  (ix v5 v7).bind fun x10 => 
  (ix o8 v7).bind fun _ => 
  ((o8)[(v7 : Int).toNat]?).bind fun e11 => rec (v4, v5, bshr .u64 (IntKind.wrap .u64 ((IntKind.wrap .u64 (v6 + (IntKind.wrap .u64 (x9)))) + (IntKind.wrap .u64 (x10)))) 32, IntKind.wrap .i64 (v7 + 1), (o8).set ((v7 : Int).toNat) (IntKind.wrap .u32 (IntKind.wrap .u64 ((IntKind.wrap .u64 (v6 + (IntKind.wrap .u64 (x9)))) + (IntKind.wrap .u64 (x10))))), ())
  else 
  (ix o8 v7).bind fun _ => 
  ((o8)[(v7 : Int).toNat]?).bind fun e12 => rec (v4, v5, bshr .u64 (IntKind.wrap .u64 (v6 + (IntKind.wrap .u64 (x9)))) 32, IntKind.wrap .i64 (v7 + 1), (o8).set ((v7 : Int).toNat) (IntKind.wrap .u32 (IntKind.wrap .u64 (v6 + (IntKind.wrap .u64 (x9))))), ()))
  else kx (v4, v6, o8, ()))

/-- espalierbig.add -/
noncomputable def espalierbig_add (n : Nat) : (List Int) × (List Int) × Unit → Option ((List Int) × Unit) :=
  fun (a1, a2, _) => 
  (bif decide (((a1.length : Int) : Int) < (a2.length : Int)) then 
  (cnt? (IntKind.wrap .i64 ((a2.length : Int) + 1))).bind fun m3 => 
  ck (room m3 4) (
  iterN (fun rc18 => espalierbig_add_s0 n rc18 (fun (v13, v14, o15, _) => 
  (ix o15 (v13.length : Int)).bind fun _ => 
  ((o15)[((v13.length : Int) : Int).toNat]?).bind fun e16 => 
  (espalierbig_trim n ((o15).set (((v13.length : Int) : Int).toNat) (IntKind.wrap .u32 (v14)), ())).bind fun (y17, _) => some (y17, ())) (fun (_) => none)) (n) (a2, a1, 0, 0, (List.replicate m3 0), ()))
  else 
  (cnt? (IntKind.wrap .i64 ((a1.length : Int) + 1))).bind fun m19 => 
  ck (room m19 4) (
  iterN (fun rc25 => espalierbig_add_s0 n rc25 (fun (v20, v21, o22, _) => 
  (ix o22 (v20.length : Int)).bind fun _ => 
  ((o22)[((v20.length : Int) : Int).toNat]?).bind fun e23 => 
  (espalierbig_trim n ((o22).set (((v20.length : Int) : Int).toNat) (IntKind.wrap .u32 (v21)), ())).bind fun (y24, _) => some (y24, ())) (fun (_) => none)) (n) (a1, a2, 0, 0, (List.replicate m19 0), ())))

/-- a round of a loop of espalierbig.cmp -/
noncomputable def espalierbig_cmp_s0 {ρ : Type} (n : Nat) (rec : (List Int) × (List Int) × Int × Unit → Option ρ) (kx : Unit → Option ρ) (kr : Int × Unit → Option ρ) : (List Int) × (List Int) × Int × Unit → Option ρ :=
  fun (v3, v4, v5, _) => 
  (bif decide ((v5 : Int) ≥ 0) then 
  (ix v3 v5).bind fun x8 => 
  (ix v4 v5).bind fun x9 => 
  (bif (x8 : Int) != x9 then 
  (ix v3 v5).bind fun x12 => 
  (ix v4 v5).bind fun x13 => 
  (bif decide ((x12 : Int) < x13) then kr ((-1), ())
  else kr (1, ()))
  else rec (v3, v4, IntKind.wrap .i64 (v5 - 1), ()))
  else kx (()))

/-- espalierbig.cmp -/
noncomputable def espalierbig_cmp (n : Nat) : (List Int) × (List Int) × Unit → Option (Int × Unit) :=
  fun (a1, a2, _) => 
  (bif ((a1.length : Int) : Int) != (a2.length : Int) then 
  (bif decide (((a1.length : Int) : Int) < (a2.length : Int)) then some ((-1), ())
  else some (1, ()))
  else 
  iterN (fun rc15 => espalierbig_cmp_s0 n rc15 (fun (_) => some (0, ())) (fun (v14, _) => some (v14, ()))) (n) (a1, a2, IntKind.wrap .i64 ((a1.length : Int) - 1), ()))

/-- a round of a loop of espalierbig.sub -/
noncomputable def espalierbig_sub_s0 {ρ : Type} (n : Nat) (rec : (List Int) × (List Int) × Int × Int × (List Int) × Unit → Option ρ) (kx : (List Int) × Unit → Option ρ) (kr : Unit → Option ρ) : (List Int) × (List Int) × Int × Int × (List Int) × Unit → Option ρ :=
  fun (v4, v5, v6, v7, o8, _) => 
  (bif decide ((v7 : Int) < (v4.length : Int)) then 
  (ix v4 v7).bind fun x9 => 
  (bif decide ((v7 : Int) < (v5.length : Int)) then 
  (ix v5 v7).bind fun x10 => 
  (ix o8 v7).bind fun _ => 
  ((o8)[(v7 : Int).toNat]?).bind fun e11 => rec (v4, v5, bshr .u64 (IntKind.wrap .u64 ((IntKind.wrap .u64 ((IntKind.wrap .u64 (x9)) - v6)) - (IntKind.wrap .u64 (x10)))) 63, IntKind.wrap .i64 (v7 + 1), (o8).set ((v7 : Int).toNat) (IntKind.wrap .u32 (IntKind.wrap .u64 ((IntKind.wrap .u64 ((IntKind.wrap .u64 (x9)) - v6)) - (IntKind.wrap .u64 (x10))))), ())
  else 
  (ix o8 v7).bind fun _ => 
  ((o8)[(v7 : Int).toNat]?).bind fun e12 => rec (v4, v5, bshr .u64 (IntKind.wrap .u64 ((IntKind.wrap .u64 (x9)) - v6)) 63, IntKind.wrap .i64 (v7 + 1), (o8).set ((v7 : Int).toNat) (IntKind.wrap .u32 (IntKind.wrap .u64 ((IntKind.wrap .u64 (x9)) - v6))), ()))
  else kx (o8, ()))

/-- espalierbig.sub -/
noncomputable def espalierbig_sub (n : Nat) : (List Int) × (List Int) × Unit → Option ((List Int) × Unit) :=
  fun (a1, a2, _) => 
  (cnt? (a1.length : Int)).bind fun m3 => 
  ck (room m3 4) (
  iterN (fun rc15 => espalierbig_sub_s0 n rc15 (fun (o13, _) => 
  (espalierbig_trim n (o13, ())).bind fun (y14, _) => some (y14, ())) (fun (_) => none)) (n) (a1, a2, 0, 0, (List.replicate m3 0), ()))

/-- espalierbig.sum -/
noncomputable def espalierbig_sum (n : Nat) : Bool × (List Int) × Bool × (List Int) × Unit → Option (Bool × (List Int) × Unit) :=
  fun (a1, a2, a3, a4, _) => 
  (bif a1 == a3 then 
  (espalierbig_add n (a2, a4, ())).bind fun (y5, _) => some (a1, y5, ())
  else 
  (espalierbig_cmp n (a2, a4, ())).bind fun (y6, _) => 
  (bif decide ((y6 : Int) ≥ 0) then 
  (espalierbig_sub n (a2, a4, ())).bind fun (y7, _) => some (a1, y7, ())
  else 
  (espalierbig_sub n (a4, a2, ())).bind fun (y8, _) => some (a3, y8, ())))

/-- (*espalierbig.Int).Add -/
noncomputable def pespalierbig_Int_Add (n : Nat) : (Bool × (List Int) × Unit) × (Bool × (List Int) × Unit) × (Bool × (List Int) × Unit) × Unit → Option ((Bool × (List Int) × Unit) × (Bool × (List Int) × Unit) × (Bool × (List Int) × Unit) × Unit) :=
  fun (o1, o2, o3, _) => 
  (espalierbig_sum n (o2.1, o2.2.1, o3.1, o3.2.1, ())).bind fun (y4, y5, _) => 
  (pespalierbig_Int_give (y4, y5, (o1.1, o1.2.1, ()), ())).bind fun (o6, _) => some ((o6.1, o6.2.1, ()), (o2.1, o2.2.1, ()), (o3.1, o3.2.1, ()), ())

/-- a round of a loop of espalierbig.length -/
noncomputable def espalierbig_length_s0 {ρ : Type} (n : Nat) (rec : (List Int) × Int × Int × Unit → Option ρ) (kx : (List Int) × Int × Unit → Option ρ) (kr : Unit → Option ρ) : (List Int) × Int × Int × Unit → Option ρ :=
  fun (v3, v4, v5, _) => 
  (bif (v5 : Int) != 0 then rec (v3, IntKind.wrap .i64 (v4 + 1), bshr .u32 v5 1, ())
  else kx (v3, v4, ()))

/-- espalierbig.length -/
noncomputable def espalierbig_length (n : Nat) : (List Int) × Unit → Option (Int × Unit) :=
  fun (a1, _) => 
  (bif ((a1.length : Int) : Int) == 0 then some (0, ())
  else 
  (ix a1 (IntKind.wrap .i64 ((a1.length : Int) - 1))).bind fun x2 => 
  iterN (fun rc8 => espalierbig_length_s0 n rc8 (fun (v6, v7, _) => some (IntKind.wrap .i64 ((IntKind.wrap .i64 ((IntKind.wrap .i64 ((v6.length : Int) - 1)) * 32)) + v7), ())) (fun (_) => none)) (n) (a1, 0, x2, ()))

/-- espalierbig.bit -/
noncomputable def espalierbig_bit : (List Int) × Int × Unit → Option (Int × Unit) :=
  fun (a1, a2, _) => 
  (bif (decide ((a2 : Int) < 0)) || (decide ((bquo .i64 a2 32 : Int) ≥ (a1.length : Int))) then some (0, ())
  else 
  (ix a1 (bquo .i64 a2 32)).bind fun x3 => 
  (shamt (brem .u64 (IntKind.wrap .u64 (a2)) 32)).bind fun q4 => some (band .u64 (IntKind.wrap .u64 (bshr .u32 x3 q4)) 1, ()))

/-- a round of a loop of (*espalierbig.Int).TrailingZeroBits -/
noncomputable def pespalierbig_Int_TrailingZeroBits_s0 {ρ : Type} (n : Nat) (rec : Int × (Bool × (List Int) × Unit) × Unit → Option ρ) (kx : Int × (Bool × (List Int) × Unit) × Unit → Option ρ) (kr : Unit → Option ρ) : Int × (Bool × (List Int) × Unit) × Unit → Option ρ :=
  fun (v2, o3, _) => 
  (espalierbig_bit (o3.2.1, IntKind.wrap .i64 (v2), ())).bind fun (y4, _) => 
  (bif (y4 : Int) == 0 then rec (IntKind.wrap .u64 (v2 + 1), (o3.1, o3.2.1, ()), ())
  else kx (v2, (o3.1, o3.2.1, ()), ()))

/-- (*espalierbig.Int).TrailingZeroBits -/
noncomputable def pespalierbig_Int_TrailingZeroBits (n : Nat) : (Bool × (List Int) × Unit) × Unit → Option (Int × (Bool × (List Int) × Unit) × Unit) :=
  fun (o1, _) => 
  (bif ((o1.2.1.length : Int) : Int) == 0 then some (0, (o1.1, o1.2.1, ()), ())
  else 
  iterN (fun rc7 => pespalierbig_Int_TrailingZeroBits_s0 n rc7 (fun (v5, o6, _) => some (v5, (o6.1, o6.2.1, ()), ())) (fun (_) => none)) (n) (0, (o1.1, o1.2.1, ()), ()))

/-- (*espalierbig.Int).IsInt64 -/
noncomputable def pespalierbig_Int_IsInt64 (n : Nat) : (Bool × (List Int) × Unit) × Unit → Option (Bool × (Bool × (List Int) × Unit) × Unit) :=
  fun (o1, _) => 
  (espalierbig_length n (o1.2.1, ())).bind fun (y2, _) => 
  (bif decide ((y2 : Int) < 64) then some (true, (o1.1, o1.2.1, ()), ())
  else 
  (bif ((y2 : Int) == 64) && o1.1 then 
  (pespalierbig_Int_TrailingZeroBits n ((o1.1, o1.2.1, ()), ())).bind fun (y3, o4, _) => some ((y3 : Int) == 63, (o4.1, o4.2.1, ()), ())
  else some (false, (o1.1, o1.2.1, ()), ())))

/-- (*espalierbig.Int).Uint64 -/
noncomputable def pespalierbig_Int_Uint64 : (Bool × (List Int) × Unit) × Unit → Option (Int × (Bool × (List Int) × Unit) × Unit) :=
  fun (o1, _) => 
  (bif decide (((o1.2.1.length : Int) : Int) > 0) then 
  (ix o1.2.1 0).bind fun x2 => 
  (bif decide (((o1.2.1.length : Int) : Int) > 1) then 
  (ix o1.2.1 1).bind fun x3 => some (bor .u64 (IntKind.wrap .u64 (x2)) (bshl .u64 (IntKind.wrap .u64 (x3)) 32), (o1.1, o1.2.1, ()), ())
  else some (IntKind.wrap .u64 (x2), (o1.1, o1.2.1, ()), ()))
  else 
  (bif decide (((o1.2.1.length : Int) : Int) > 1) then 
  (ix o1.2.1 1).bind fun x4 => some (bor .u64 0 (bshl .u64 (IntKind.wrap .u64 (x4)) 32), (o1.1, o1.2.1, ()), ())
  else some (0, (o1.1, o1.2.1, ()), ())))

/-- (*espalierbig.Int).Int64 -/
noncomputable def pespalierbig_Int_Int64 : (Bool × (List Int) × Unit) × Unit → Option (Int × (Bool × (List Int) × Unit) × Unit) :=
  fun (o1, _) => 
  (pespalierbig_Int_Uint64 ((o1.1, o1.2.1, ()), ())).bind fun (y2, o3, _) => 
  (bif o3.1 then some (IntKind.wrap .i64 (0 - (IntKind.wrap .i64 (y2))), (o3.1, o3.2.1, ()), ())
  else some (IntKind.wrap .i64 (y2), (o3.1, o3.2.1, ()), ()))

/-- (*espalierbig.Int).Sub -/
noncomputable def pespalierbig_Int_Sub (n : Nat) : (Bool × (List Int) × Unit) × (Bool × (List Int) × Unit) × (Bool × (List Int) × Unit) × Unit → Option ((Bool × (List Int) × Unit) × (Bool × (List Int) × Unit) × (Bool × (List Int) × Unit) × Unit) :=
  fun (o1, o2, o3, _) => 
  (espalierbig_sum n (o2.1, o2.2.1, !o3.1, o3.2.1, ())).bind fun (y4, y5, _) => 
  (pespalierbig_Int_give (y4, y5, (o1.1, o1.2.1, ()), ())).bind fun (o6, _) => some ((o6.1, o6.2.1, ()), (o2.1, o2.2.1, ()), (o3.1, o3.2.1, ()), ())

/-- a round of a loop of espalierbig.mul -/
noncomputable def espalierbig_mul_s2 {ρ : Type} (n : Nat) (rec : (List Int) × (List Int) × Int × Int × Int × (List Int) × Unit → Option ρ) (kx : (List Int) × (List Int) × Int × Int × (List Int) × Unit → Option ρ) (kr : Unit → Option ρ) : (List Int) × (List Int) × Int × Int × Int × (List Int) × Unit → Option ρ :=
  fun (v8, v9, v10, v11, v12, o13, _) => 
  (bif decide ((v12 : Int) < (v9.length : Int)) then 
  (ix v8 v10).bind fun x17 => 
  (ix v9 v12).bind fun x18 => 
  (ix o13 (IntKind.wrap .i64 (v10 + v12))).bind fun _ => 
  ((o13)[(IntKind.wrap .i64 (v10 + v12) : Int).toNat]?).bind fun e19 => 
  (ix o13 (IntKind.wrap .i64 (v10 + v12))).bind fun _ => 
  ((o13)[(IntKind.wrap .i64 (v10 + v12) : Int).toNat]?).bind fun e20 => rec (v8, v9, v10, bshr .u64 (IntKind.wrap .u64 (v11 + (IntKind.wrap .u64 ((IntKind.wrap .u64 ((IntKind.wrap .u64 (x17)) * (IntKind.wrap .u64 (x18)))) + (IntKind.wrap .u64 (e19)))))) 32, IntKind.wrap .i64 (v12 + 1), (o13).set ((IntKind.wrap .i64 (v10 + v12) : Int).toNat) (IntKind.wrap .u32 (IntKind.wrap .u64 (v11 + (IntKind.wrap .u64 ((IntKind.wrap .u64 ((IntKind.wrap .u64 (x17)) * (IntKind.wrap .u64 (x18)))) + (IntKind.wrap .u64 (e19))))))), ())
  else kx (v8, v9, v10, v11, o13, ()))

/-- a round of a loop of espalierbig.mul -/
noncomputable def espalierbig_mul_s0 {ρ : Type} (n : Nat) (rec : (List Int) × (List Int) × Int × (List Int) × Unit → Option ρ) (kx : (List Int) × Unit → Option ρ) (kr : Unit → Option ρ) : (List Int) × (List Int) × Int × (List Int) × Unit → Option ρ :=
  fun (v4, v5, v6, o7, _) => 
  (bif decide ((v6 : Int) < (v4.length : Int)) then 
  iterN (fun rc27 => espalierbig_mul_s2 n rc27 (fun (v21, v22, v23, v24, o25, _) => 
  (ix o25 (IntKind.wrap .i64 (v23 + (v22.length : Int)))).bind fun _ => 
  ((o25)[(IntKind.wrap .i64 (v23 + (v22.length : Int)) : Int).toNat]?).bind fun e26 => rec (v21, v22, IntKind.wrap .i64 (v23 + 1), (o25).set ((IntKind.wrap .i64 (v23 + (v22.length : Int)) : Int).toNat) (IntKind.wrap .u32 (v24)), ())) (fun (_) => none)) (n) (v4, v5, v6, 0, 0, o7, ())
  else kx (o7, ()))

/-- espalierbig.mul -/
noncomputable def espalierbig_mul (n : Nat) : (List Int) × (List Int) × Unit → Option ((List Int) × Unit) :=
  fun (a1, a2, _) => 
  (bif (((a1.length : Int) : Int) == 0) || (((a2.length : Int) : Int) == 0) then some (([] : List Int), ())
  else 
  (cnt? (IntKind.wrap .i64 ((a1.length : Int) + (a2.length : Int)))).bind fun m3 => 
  ck (room m3 4) (
  iterN (fun rc30 => espalierbig_mul_s0 n rc30 (fun (o28, _) => 
  (espalierbig_trim n (o28, ())).bind fun (y29, _) => some (y29, ())) (fun (_) => none)) (n) (a1, a2, 0, (List.replicate m3 0), ())))

/-- (*espalierbig.Int).Mul -/
noncomputable def pespalierbig_Int_Mul (n : Nat) : (Bool × (List Int) × Unit) × (Bool × (List Int) × Unit) × (Bool × (List Int) × Unit) × Unit → Option ((Bool × (List Int) × Unit) × (Bool × (List Int) × Unit) × (Bool × (List Int) × Unit) × Unit) :=
  fun (o1, o2, o3, _) => 
  (espalierbig_mul n (o2.2.1, o3.2.1, ())).bind fun (y4, _) => 
  (pespalierbig_Int_give (!(o2.1 == o3.1), y4, (o1.1, o1.2.1, ()), ())).bind fun (o5, _) => some ((o5.1, o5.2.1, ()), (o2.1, o2.2.1, ()), (o3.1, o3.2.1, ()), ())

/-- espalierref.ReckonOf -/
noncomputable def espalierref_ReckonOf (n : Nat) : ByteArray × Ev.Val × Ev.Val × Unit → Option (Ev.Val × Int × Unit) :=
  fun (a1, a2, a3, _) => 
  (bif ((!(seq a1 (⟨#[43]⟩ : ByteArray))) && (!(seq a1 (⟨#[45]⟩ : ByteArray)))) && (!(seq a1 (⟨#[42]⟩ : ByteArray))) then some ((Ev.Val.mk 0 0 (⟨#[]⟩ : ByteArray) ([] : List Ev.Val)), 5, ())
  else 
  (bif ((a2.kind : Int) == 0) || ((a3.kind : Int) == 0) then some ((Ev.Val.mk 0 0 (⟨#[]⟩ : ByteArray) ([] : List Ev.Val)), 0, ())
  else 
  (bif ((a2.kind : Int) == 2) && ((a3.kind : Int) == 2) then 
  (espalierbig_NewInt n (a2.n, ())).bind fun (o4, _) => 
  (espalierbig_NewInt n (a3.n, ())).bind fun (o5, _) => 
  (bif seq a1 (⟨#[43]⟩ : ByteArray) then 
  (pespalierbig_Int_Add n ((false, ([] : List Int), ()), (o4.1, o4.2.1, ()), (o5.1, o5.2.1, ()), ())).bind fun (o6, o7, o8, _) => 
  (pespalierbig_Int_IsInt64 n ((o6.1, o6.2.1, ()), ())).bind fun (y9, o10, _) => 
  (bif !y9 then some ((Ev.Val.mk 0 0 (⟨#[]⟩ : ByteArray) ([] : List Ev.Val)), 4, ())
  else 
  (pespalierbig_Int_Int64 ((o10.1, o10.2.1, ()), ())).bind fun (y11, o12, _) => some ((Ev.Val.mk 2 y11 (⟨#[]⟩ : ByteArray) ([] : List Ev.Val)), 0, ()))
  else 
  (bif seq a1 (⟨#[45]⟩ : ByteArray) then 
  (pespalierbig_Int_Sub n ((false, ([] : List Int), ()), (o4.1, o4.2.1, ()), (o5.1, o5.2.1, ()), ())).bind fun (o13, o14, o15, _) => 
  (pespalierbig_Int_IsInt64 n ((o13.1, o13.2.1, ()), ())).bind fun (y16, o17, _) => 
  (bif !y16 then some ((Ev.Val.mk 0 0 (⟨#[]⟩ : ByteArray) ([] : List Ev.Val)), 4, ())
  else 
  (pespalierbig_Int_Int64 ((o17.1, o17.2.1, ()), ())).bind fun (y18, o19, _) => some ((Ev.Val.mk 2 y18 (⟨#[]⟩ : ByteArray) ([] : List Ev.Val)), 0, ()))
  else 
  (pespalierbig_Int_Mul n ((false, ([] : List Int), ()), (o4.1, o4.2.1, ()), (o5.1, o5.2.1, ()), ())).bind fun (o20, o21, o22, _) => 
  (pespalierbig_Int_IsInt64 n ((o20.1, o20.2.1, ()), ())).bind fun (y23, o24, _) => 
  (bif !y23 then some ((Ev.Val.mk 0 0 (⟨#[]⟩ : ByteArray) ([] : List Ev.Val)), 4, ())
  else 
  (pespalierbig_Int_Int64 ((o24.1, o24.2.1, ()), ())).bind fun (y25, o26, _) => some ((Ev.Val.mk 2 y25 (⟨#[]⟩ : ByteArray) ([] : List Ev.Val)), 0, ()))))
  else 
  (bif ((!(seq a1 (⟨#[43]⟩ : ByteArray))) || ((a2.kind : Int) != a3.kind)) || (((a2.kind : Int) != 3) && ((a2.kind : Int) != 4)) then some ((Ev.Val.mk 0 0 (⟨#[]⟩ : ByteArray) ([] : List Ev.Val)), 3, ())
  else 
  (bif (a2.kind : Int) == 3 then 
  (cat? a2.s a3.s).bind fun s27 => 
  (bif decide (((s27.size : Int) : Int) > 4000) then some ((Ev.Val.mk 0 0 (⟨#[]⟩ : ByteArray) ([] : List Ev.Val)), 2, ())
  else 
  (cat? a2.s a3.s).bind fun s28 => some ((Ev.Val.mk 3 0 s28 ([] : List Ev.Val)), 0, ()))
  else 
  (bif decide ((IntKind.wrap .i64 ((a2.l.length : Int) + (a3.l.length : Int)) : Int) > 30) then some ((Ev.Val.mk 0 0 (⟨#[]⟩ : ByteArray) ([] : List Ev.Val)), 2, ())
  else 
  ck (room (([] : List Ev.Val) ++ a2.l).length 56) (
  ck (room ((([] : List Ev.Val) ++ a2.l) ++ a3.l).length 56) (some ((Ev.Val.mk 4 0 (⟨#[]⟩ : ByteArray) ((([] : List Ev.Val) ++ a2.l) ++ a3.l)), 0, ())))))))))

/-- espalierlaw.num -/
noncomputable def espalierlaw_num : Int × Unit → Option (Ev.Val × Unit) :=
  fun (a1, _) => some ((Ev.Val.mk 2 a1 (⟨#[]⟩ : ByteArray) ([] : List Ev.Val)), ())

/-- espalierlaw.str -/
noncomputable def espalierlaw_str : ByteArray × Unit → Option (Ev.Val × Unit) :=
  fun (a1, _) => some ((Ev.Val.mk 3 0 a1 ([] : List Ev.Val)), ())

/-- espalierlaw.list -/
noncomputable def espalierlaw_list : (List Ev.Val) × Unit → Option (Ev.Val × Unit) :=
  fun (a1, _) => some ((Ev.Val.mk 4 0 (⟨#[]⟩ : ByteArray) a1), ())

/-- a round of a loop of value.check -/
noncomputable def value_check_s1 {ρ : Type} (self_value_check : Ev.Val × Int × Unit → Option (Int × Unit)) (n : Nat) (rec : Int × (List Ev.Val) × Int × Int × (Ev.Val × Unit) × Unit → Option ρ) (kx : (Ev.Val × Unit) × Unit → Option ρ) (kr : Int × Unit → Option ρ) : Int × (List Ev.Val) × Int × Int × (Ev.Val × Unit) × Unit → Option ρ :=
  fun (v4, v5, v6, v7, o8, _) => 
  (bif decide ((v7 : Int) < v6) then 
  (ix v5 v7).bind fun x9 => 
  (self_value_check ((Ev.Val.mk x9.kind x9.n x9.s x9.l), IntKind.wrap .i64 (v4 + 1), ())).bind fun (y10, _) => 
  (bif (y10 : Int) != 0 then kr (y10, ())
  else rec (v4, v5, v6, IntKind.wrap .i64 (v7 + 1), ((Ev.Val.mk o8.1.kind o8.1.n o8.1.s o8.1.l), ()), ()))
  else kx (((Ev.Val.mk o8.1.kind o8.1.n o8.1.s o8.1.l), ()), ()))

noncomputable def F_value_check_s1 {ρ : Type} (self_value_check : Ev.Val × Int × Unit → Option (Int × Unit)) (n : Nat) (kr : Int × Unit → Option ρ) : Int → Ev.Val → (Int × (Ev.Val × Unit) × Unit) → ((Int × (Ev.Val × Unit) × Unit) → Option ρ) → Option ρ :=
  fun v7 x9 (v4, o8, _) rec =>  
  (self_value_check ((Ev.Val.mk x9.kind x9.n x9.s x9.l), IntKind.wrap .i64 (v4 + 1), ())).bind fun (y10, _) => 
  (bif (y10 : Int) != 0 then kr (y10, ())
  else rec (v4, ((Ev.Val.mk o8.1.kind o8.1.n o8.1.s o8.1.l), ()), ()))

theorem R_value_check_s1 {ρ : Type} (self_value_check : Ev.Val × Int × Unit → Option (Int × Unit)) (n : Nat) (kx : (Ev.Val × Unit) × Unit → Option ρ) (kr : Int × Unit → Option ρ) (l : List Ev.Val) (fuel : Nat) (v4 : Int) (o8 : Ev.Val × Unit) (hl : l.length ≤ 9223372036854775807) (hf : l.length < fuel) :
    iterN (fun rc => value_check_s1 self_value_check n rc kx kr) fuel (v4, l, (l.length : Int), 0, o8, ()) = foldK (F_value_check_s1 self_value_check n kr) (fun (v4, o8, _) => kx (((Ev.Val.mk o8.1.kind o8.1.n o8.1.s o8.1.l), ()), ())) 0 l (v4, o8, ()) :=
  range_listM l (fun i (v4, o8, _) => (v4, l, (l.length : Int), i, o8, ())) _ _ _ (fun rec i s => rfl) hl fuel (v4, o8, ()) hf

/-- value.check -/
noncomputable def value_check_b (self_value_check : Ev.Val × Int × Unit → Option (Int × Unit)) (n : Nat) : Ev.Val × Int × Unit → Option (Int × Unit) :=
  fun (a1, a2, _) => 
  (bif (a1.kind : Int) == 0 then 
  (bif !((((a1.n : Int) == 0) && (seq a1.s (⟨#[]⟩ : ByteArray))) && (((a1.l.length : Int) : Int) == 0)) then some (6, ())
  else some (0, ()))
  else 
  (bif (a1.kind : Int) == 1 then 
  (bif !(((((a1.n : Int) == 0) || ((a1.n : Int) == 1)) && (seq a1.s (⟨#[]⟩ : ByteArray))) && (((a1.l.length : Int) : Int) == 0)) then some (6, ())
  else some (0, ()))
  else 
  (bif (a1.kind : Int) == 2 then 
  (bif !((seq a1.s (⟨#[]⟩ : ByteArray)) && (((a1.l.length : Int) : Int) == 0)) then some (6, ())
  else some (0, ()))
  else 
  (bif (a1.kind : Int) == 3 then 
  (bif decide (((a1.s.size : Int) : Int) > 4000) then some (2, ())
  else 
  (bif (a1.n : Int) == 0 then 
  (validN (a1.s, ())).bind fun (y3, _) => 
  (bif !(y3 && (((a1.l.length : Int) : Int) == 0)) then some (6, ())
  else some (0, ()))
  else some (6, ())))
  else 
  (bif (a1.kind : Int) == 4 then 
  (bif (decide (((a1.l.length : Int) : Int) > 30)) || (decide ((a2 : Int) > 6)) then some (2, ())
  else 
  iterN (fun rc13 => value_check_s1 self_value_check n rc13 (fun (o11, _) => 
  (bif !(((o11.1.n : Int) == 0) && (seq o11.1.s (⟨#[]⟩ : ByteArray))) then some (6, ())
  else some (0, ()))) (fun (v12, _) => some (v12, ()))) (n) (a2, a1.l, (a1.l.length : Int), 0, ((Ev.Val.mk a1.kind a1.n a1.s a1.l), ()), ()))
  else some (6, ()))))))

noncomputable def value_check : Nat → Ev.Val × Int × Unit → Option (Int × Unit)
  | 0, _ => none
  | n + 1, x => value_check_b (value_check n) n x

/-- value.Check -/
noncomputable def value_Check (n : Nat) : Ev.Val × Unit → Option (Int × Unit) :=
  fun (a1, _) => 
  (value_check n ((Ev.Val.mk a1.kind a1.n a1.s a1.l), 1, ())).bind fun (y2, _) => some (y2, ())

/-- (*strings.Builder).WriteString -/
noncomputable def pstrings_Builder_WriteString : ByteArray × Unit × (List Int) × Unit → Option (Int × Unit × (List Int) × Unit) :=
  fun (a1, o2, o3, _) => 
  (copyCheckN ((()), o3, ())).bind fun (o4, o5, _) => 
  ck (room (o5 ++ (bytesI a1)).length 1) (some ((a1.size : Int), (()), o5 ++ (bytesI a1), ()))

/-- internal.strconv.FormatBool -/
noncomputable def internal_strconv_FormatBool : Bool × Unit → Option (ByteArray × Unit) :=
  fun (a1, _) => 
  (bif a1 then some ((⟨#[116, 114, 117, 101]⟩ : ByteArray), ())
  else some ((⟨#[102, 97, 108, 115, 101]⟩ : ByteArray), ()))

/-- strconv.FormatBool -/
noncomputable def strconv_FormatBool : Bool × Unit → Option (ByteArray × Unit) :=
  fun (a1, _) => 
  (internal_strconv_FormatBool (a1, ())).bind fun (y2, _) => some (y2, ())

/-- (*strings.Builder).WriteByte -/
noncomputable def pstrings_Builder_WriteByte : Int × Unit × (List Int) × Unit → Option (Unit × (List Int) × Unit) :=
  fun (a1, o2, o3, _) => 
  (copyCheckN ((()), o3, ())).bind fun (o4, o5, _) => 
  ck (room (o5 ++ ([a1] : List Int)).length 1) (some ((()), o5 ++ ([a1] : List Int), ()))

/-- unicode.utf8.appendRuneNonASCII -/
noncomputable def unicode_utf8_appendRuneNonASCII : Int × (List Int) × Unit → Option ((List Int) × Unit) :=
  fun (a1, o2, _) => 
  (bif decide ((IntKind.wrap .u32 (a1) : Int) ≤ 2047) then 
  ck (room (o2 ++ ([bor .u8 192 (IntKind.wrap .u8 (bshr .i32 a1 6)), bor .u8 128 (band .u8 (IntKind.wrap .u8 (a1)) 63)] : List Int)).length 1) (some (o2 ++ ([bor .u8 192 (IntKind.wrap .u8 (bshr .i32 a1 6)), bor .u8 128 (band .u8 (IntKind.wrap .u8 (a1)) 63)] : List Int), ()))
  else 
  (bif decide ((IntKind.wrap .u32 (a1) : Int) < 55296) then 
  (bif decide ((IntKind.wrap .u32 (a1) : Int) < 55296) then 
  ck (room (o2 ++ ([bor .u8 224 (IntKind.wrap .u8 (bshr .i32 a1 12)), bor .u8 128 (band .u8 (IntKind.wrap .u8 (bshr .i32 a1 6)) 63), bor .u8 128 (band .u8 (IntKind.wrap .u8 (a1)) 63)] : List Int)).length 1) (some (o2 ++ ([bor .u8 224 (IntKind.wrap .u8 (bshr .i32 a1 12)), bor .u8 128 (band .u8 (IntKind.wrap .u8 (bshr .i32 a1 6)) 63), bor .u8 128 (band .u8 (IntKind.wrap .u8 (a1)) 63)] : List Int), ()))
  else 
  (bif (decide ((IntKind.wrap .u32 (a1) : Int) > 65535)) && (decide ((IntKind.wrap .u32 (a1) : Int) ≤ 1114111)) then 
  ck (room (o2 ++ ([bor .u8 240 (IntKind.wrap .u8 (bshr .i32 a1 18)), bor .u8 128 (band .u8 (IntKind.wrap .u8 (bshr .i32 a1 12)) 63), bor .u8 128 (band .u8 (IntKind.wrap .u8 (bshr .i32 a1 6)) 63), bor .u8 128 (band .u8 (IntKind.wrap .u8 (a1)) 63)] : List Int)).length 1) (some (o2 ++ ([bor .u8 240 (IntKind.wrap .u8 (bshr .i32 a1 18)), bor .u8 128 (band .u8 (IntKind.wrap .u8 (bshr .i32 a1 12)) 63), bor .u8 128 (band .u8 (IntKind.wrap .u8 (bshr .i32 a1 6)) 63), bor .u8 128 (band .u8 (IntKind.wrap .u8 (a1)) 63)] : List Int), ()))
  else 
  ck (room (o2 ++ ([239, 191, 189] : List Int)).length 1) (some (o2 ++ ([239, 191, 189] : List Int), ()))))
  else 
  (bif (decide ((57343 : Int) < (IntKind.wrap .u32 (a1)))) && (decide ((IntKind.wrap .u32 (a1) : Int) ≤ 65535)) then 
  ck (room (o2 ++ ([bor .u8 224 (IntKind.wrap .u8 (bshr .i32 a1 12)), bor .u8 128 (band .u8 (IntKind.wrap .u8 (bshr .i32 a1 6)) 63), bor .u8 128 (band .u8 (IntKind.wrap .u8 (a1)) 63)] : List Int)).length 1) (some (o2 ++ ([bor .u8 224 (IntKind.wrap .u8 (bshr .i32 a1 12)), bor .u8 128 (band .u8 (IntKind.wrap .u8 (bshr .i32 a1 6)) 63), bor .u8 128 (band .u8 (IntKind.wrap .u8 (a1)) 63)] : List Int), ()))
  else 
  (bif (decide ((IntKind.wrap .u32 (a1) : Int) > 65535)) && (decide ((IntKind.wrap .u32 (a1) : Int) ≤ 1114111)) then 
  ck (room (o2 ++ ([bor .u8 240 (IntKind.wrap .u8 (bshr .i32 a1 18)), bor .u8 128 (band .u8 (IntKind.wrap .u8 (bshr .i32 a1 12)) 63), bor .u8 128 (band .u8 (IntKind.wrap .u8 (bshr .i32 a1 6)) 63), bor .u8 128 (band .u8 (IntKind.wrap .u8 (a1)) 63)] : List Int)).length 1) (some (o2 ++ ([bor .u8 240 (IntKind.wrap .u8 (bshr .i32 a1 18)), bor .u8 128 (band .u8 (IntKind.wrap .u8 (bshr .i32 a1 12)) 63), bor .u8 128 (band .u8 (IntKind.wrap .u8 (bshr .i32 a1 6)) 63), bor .u8 128 (band .u8 (IntKind.wrap .u8 (a1)) 63)] : List Int), ()))
  else 
  ck (room (o2 ++ ([239, 191, 189] : List Int)).length 1) (some (o2 ++ ([239, 191, 189] : List Int), ()))))))

/-- unicode.utf8.AppendRune -/
noncomputable def unicode_utf8_AppendRune : Int × (List Int) × Unit → Option ((List Int) × Unit) :=
  fun (a1, o2, _) => 
  (bif decide ((IntKind.wrap .u32 (a1) : Int) ≤ 127) then 
  ck (room (o2 ++ ([IntKind.wrap .u8 (a1)] : List Int)).length 1) (some (o2 ++ ([IntKind.wrap .u8 (a1)] : List Int), ()))
  else 
  (unicode_utf8_appendRuneNonASCII (a1, o2, ())).bind fun (o3, _) => some (o3, ()))

/-- (*strings.Builder).WriteRune -/
noncomputable def pstrings_Builder_WriteRune : Int × Unit × (List Int) × Unit → Option (Int × Unit × (List Int) × Unit) :=
  fun (a1, o2, o3, _) => 
  (copyCheckN ((()), o3, ())).bind fun (o4, o5, _) => 
  (unicode_utf8_AppendRune (a1, o5, ())).bind fun (o6, _) => some (IntKind.wrap .i64 ((o6.length : Int) - (o5.length : Int)), (()), o6, ())

/-- a round of a loop of value.tell -/
noncomputable def value_tell_s1 {ρ : Type} (self_value_tell : Ev.Val × Unit × (List Int) × Unit → Option (Unit × (List Int) × Unit)) (n : Nat) (rec : (ByteArray × Nat) × Unit × (List Int) × Unit → Option ρ) (kx : Unit × (List Int) × Unit → Option ρ) (kr : Unit → Option ρ) : (ByteArray × Nat) × Unit × (List Int) × Unit → Option ρ :=
  fun (o17, o18, o19, _) => 
  (bif Nat.blt o17.2 o17.1.size then 
  (bif (((Utf8.decode o17.1 o17.2).1 : Int) : Int) == 39 then 
  (bif (((Utf8.decode o17.1 o17.2).1 : Int) : Int) == 39 then 
  (pstrings_Builder_WriteByte (92, (()), o19, ())).bind fun (o20, o21, _) => 
  (pstrings_Builder_WriteRune (((Utf8.decode o17.1 o17.2).1 : Int), (()), o21, ())).bind fun (y22, o23, o24, _) => rec ((o17.1, o17.2 + (Utf8.decode o17.1 o17.2).2), (()), o24, ())
  else 
  (bif (((Utf8.decode o17.1 o17.2).1 : Int) : Int) == 10 then 
  (pstrings_Builder_WriteByte (92, (()), o19, ())).bind fun (o25, o26, _) => 
  (pstrings_Builder_WriteRune (110, (()), o26, ())).bind fun (y27, o28, o29, _) => rec ((o17.1, o17.2 + (Utf8.decode o17.1 o17.2).2), (()), o29, ())
  else 
  (pstrings_Builder_WriteRune (((Utf8.decode o17.1 o17.2).1 : Int), (()), o19, ())).bind fun (y30, o31, o32, _) => rec ((o17.1, o17.2 + (Utf8.decode o17.1 o17.2).2), (()), o32, ())))
  else 
  (bif (((Utf8.decode o17.1 o17.2).1 : Int) : Int) == 92 then 
  (pstrings_Builder_WriteByte (92, (()), o19, ())).bind fun (o33, o34, _) => 
  (pstrings_Builder_WriteRune (((Utf8.decode o17.1 o17.2).1 : Int), (()), o34, ())).bind fun (y35, o36, o37, _) => rec ((o17.1, o17.2 + (Utf8.decode o17.1 o17.2).2), (()), o37, ())
  else 
  (bif (((Utf8.decode o17.1 o17.2).1 : Int) : Int) == 10 then 
  (pstrings_Builder_WriteByte (92, (()), o19, ())).bind fun (o38, o39, _) => 
  (pstrings_Builder_WriteRune (110, (()), o39, ())).bind fun (y40, o41, o42, _) => rec ((o17.1, o17.2 + (Utf8.decode o17.1 o17.2).2), (()), o42, ())
  else 
  (pstrings_Builder_WriteRune (((Utf8.decode o17.1 o17.2).1 : Int), (()), o19, ())).bind fun (y43, o44, o45, _) => rec ((o17.1, o17.2 + (Utf8.decode o17.1 o17.2).2), (()), o45, ()))))
  else kx ((()), o19, ()))

/-- a round of a loop of value.tell -/
noncomputable def value_tell_s4 {ρ : Type} (self_value_tell : Ev.Val × Unit × (List Int) × Unit → Option (Unit × (List Int) × Unit)) (n : Nat) (rec : (List Ev.Val) × Int × Int × Unit × (List Int) × Unit → Option ρ) (kx : Unit × (List Int) × Unit → Option ρ) (kr : Unit → Option ρ) : (List Ev.Val) × Int × Int × Unit × (List Int) × Unit → Option ρ :=
  fun (v53, v54, v55, o56, o57, _) => 
  (bif decide ((v55 : Int) < v54) then 
  (ix v53 v55).bind fun x58 => 
  (bif decide ((v55 : Int) > 0) then 
  (pstrings_Builder_WriteByte (44, (()), o57, ())).bind fun (o59, o60, _) => 
  (self_value_tell ((Ev.Val.mk x58.kind x58.n x58.s x58.l), (()), o60, ())).bind fun (o61, o62, _) => rec (v53, v54, IntKind.wrap .i64 (v55 + 1), (()), o62, ())
  else 
  (self_value_tell ((Ev.Val.mk x58.kind x58.n x58.s x58.l), (()), o57, ())).bind fun (o63, o64, _) => rec (v53, v54, IntKind.wrap .i64 (v55 + 1), (()), o64, ()))
  else kx ((()), o57, ()))

noncomputable def F_value_tell_s4 {ρ : Type} (self_value_tell : Ev.Val × Unit × (List Int) × Unit → Option (Unit × (List Int) × Unit)) (n : Nat) (kr : Unit → Option ρ) : Int → Ev.Val → (Unit × (List Int) × Unit) → ((Unit × (List Int) × Unit) → Option ρ) → Option ρ :=
  fun v55 x58 (o56, o57, _) rec =>  
  (bif decide ((v55 : Int) > 0) then 
  (pstrings_Builder_WriteByte (44, (()), o57, ())).bind fun (o59, o60, _) => 
  (self_value_tell ((Ev.Val.mk x58.kind x58.n x58.s x58.l), (()), o60, ())).bind fun (o61, o62, _) => rec ((()), o62, ())
  else 
  (self_value_tell ((Ev.Val.mk x58.kind x58.n x58.s x58.l), (()), o57, ())).bind fun (o63, o64, _) => rec ((()), o64, ()))

theorem R_value_tell_s4 {ρ : Type} (self_value_tell : Ev.Val × Unit × (List Int) × Unit → Option (Unit × (List Int) × Unit)) (n : Nat) (kx : Unit × (List Int) × Unit → Option ρ) (kr : Unit → Option ρ) (l : List Ev.Val) (fuel : Nat) (o56 : Unit) (o57 : List Int) (hl : l.length ≤ 9223372036854775807) (hf : l.length < fuel) :
    iterN (fun rc => value_tell_s4 self_value_tell n rc kx kr) fuel (l, (l.length : Int), 0, o56, o57, ()) = foldK (F_value_tell_s4 self_value_tell n kr) (fun (o56, o57, _) => kx ((()), o57, ())) 0 l (o56, o57, ()) :=
  range_listM l (fun i (o56, o57, _) => (l, (l.length : Int), i, o56, o57, ())) _ _ _ (fun rec i s => rfl) hl fuel (o56, o57, ()) hf

/-- value.tell -/
noncomputable def value_tell_b (self_value_tell : Ev.Val × Unit × (List Int) × Unit → Option (Unit × (List Int) × Unit)) (n : Nat) : Ev.Val × Unit × (List Int) × Unit → Option (Unit × (List Int) × Unit) :=
  fun (a1, o2, o3, _) => 
  (bif (a1.kind : Int) == 0 then 
  (pstrings_Builder_WriteString ((⟨#[110, 117, 108, 108]⟩ : ByteArray), (()), o3, ())).bind fun (y4, o5, o6, _) => some ((()), o6, ())
  else 
  (bif (a1.kind : Int) == 1 then 
  (strconv_FormatBool ((a1.n : Int) == 1, ())).bind fun (y7, _) => 
  (pstrings_Builder_WriteString (y7, (()), o3, ())).bind fun (y8, o9, o10, _) => some ((()), o10, ())
  else 
  (bif (a1.kind : Int) == 2 then 
  (itoaN (a1.n, ())).bind fun (y11, _) => 
  (pstrings_Builder_WriteString (y11, (()), o3, ())).bind fun (y12, o13, o14, _) => some ((()), o14, ())
  else 
  (bif (a1.kind : Int) == 3 then 
  (pstrings_Builder_WriteByte (39, (()), o3, ())).bind fun (o15, o16, _) => 
  iterN (fun rc50 => value_tell_s1 self_value_tell n rc50 (fun (o46, o47, _) => 
  (pstrings_Builder_WriteByte (39, (()), o47, ())).bind fun (o48, o49, _) => some ((()), o49, ())) (fun (_) => none)) (n) ((a1.s, 0), (()), o16, ())
  else 
  (bif (a1.kind : Int) == 4 then 
  (pstrings_Builder_WriteByte (91, (()), o3, ())).bind fun (o51, o52, _) => 
  iterN (fun rc69 => value_tell_s4 self_value_tell n rc69 (fun (o65, o66, _) => 
  (pstrings_Builder_WriteByte (93, (()), o66, ())).bind fun (o67, o68, _) => some ((()), o68, ())) (fun (_) => none)) (n) (a1.l, (a1.l.length : Int), 0, (()), o52, ())
  else some ((()), o3, ()))))))

noncomputable def value_tell : Nat → Ev.Val × Unit × (List Int) × Unit → Option (Unit × (List Int) × Unit)
  | 0, _ => none
  | n + 1, x => value_tell_b (value_tell n) n x

/-- (*strings.Builder).Len -/
noncomputable def pstrings_Builder_Len : Unit × (List Int) × Unit → Option (Int × Unit × (List Int) × Unit) :=
  fun (o1, o2, _) => some ((o2.length : Int), (()), o2, ())

/-- value.Print -/
noncomputable def value_Print (n : Nat) : Ev.Val × Unit → Option (ByteArray × Int × Unit) :=
  fun (a1, _) => 
  (value_Check n ((Ev.Val.mk a1.kind a1.n a1.s a1.l), ())).bind fun (y2, _) => 
  (bif (y2 : Int) != 0 then some ((⟨#[]⟩ : ByteArray), y2, ())
  else 
  (value_tell n ((Ev.Val.mk a1.kind a1.n a1.s a1.l), (()), ([] : List Int), ())).bind fun (o3, o4, _) => 
  (pstrings_Builder_Len ((()), o4, ())).bind fun (y5, o6, o7, _) => 
  (bif decide ((y5 : Int) > 4000) then some ((⟨#[]⟩ : ByteArray), 2, ())
  else 
  (stringN ((()), o7, ())).bind fun (y8, _) => some (y8, 0, ())))

/-- internal.stringslite.HasPrefix -/
noncomputable def internal_stringslite_HasPrefix : ByteArray × ByteArray × Unit → Option (Bool × Unit) :=
  fun (a1, a2, _) => 
  (bif decide (((a1.size : Int) : Int) ≥ (a2.size : Int)) then 
  (ssl a1 0 (a2.size : Int)).bind fun s3 => some (seq s3 a2, ())
  else some (false, ()))

/-- strings.HasPrefix -/
noncomputable def strings_HasPrefix : ByteArray × ByteArray × Unit → Option (Bool × Unit) :=
  fun (a1, a2, _) => 
  (internal_stringslite_HasPrefix (a1, a2, ())).bind fun (y3, _) => some (y3, ())

/-- (*value.reader).eat -/
noncomputable def pvalue_reader_eat : ByteArray × (ByteArray × Int × Unit) × Unit → Option (Bool × (ByteArray × Int × Unit) × Unit) :=
  fun (a1, o2, _) => 
  (ssl o2.1 o2.2.1 (o2.1.size : Int)).bind fun s4 => 
  (strings_HasPrefix (s4, a1, ())).bind fun (y5, _) => 
  (bif !y5 then some (false, (o2.1, o2.2.1, ()), ())
  else some (true, (o2.1, IntKind.wrap .i64 (o2.2.1 + (a1.size : Int)), ()), ()))

/-- value.truth -/
noncomputable def value_truth : Bool × Unit → Option (Ev.Val × Unit) :=
  fun (a1, _) => 
  (bif a1 then some ((Ev.Val.mk 1 1 (⟨#[]⟩ : ByteArray) ([] : List Ev.Val)), ())
  else some ((Ev.Val.mk 1 0 (⟨#[]⟩ : ByteArray) ([] : List Ev.Val)), ()))

/-- a round of a loop of (*value.reader).text -/
noncomputable def pvalue_reader_text_s0 {ρ : Type} (n : Nat) (rec : Unit × (List Int) × (ByteArray × Int × Unit) × Unit → Option ρ) (kx : Unit → Option ρ) (kr : ByteArray × (ByteArray × Int × Unit) × Unit → Option ρ) : Unit × (List Int) × (ByteArray × Int × Unit) × Unit → Option ρ :=
  fun (o2, o3, o4, _) => 
  (pvalue_reader_eat ((⟨#[39]⟩ : ByteArray), (o4.1, o4.2.1, ()), ())).bind fun (y5, o6, _) => 
  (bif y5 then 
  (stringN ((()), o3, ())).bind fun (y7, _) => kr (y7, (o6.1, o6.2.1, ()), ())
  else 
  (pvalue_reader_eat ((⟨#[92, 110]⟩ : ByteArray), (o6.1, o6.2.1, ()), ())).bind fun (y8, o9, _) => 
  (bif y8 then 
  (pstrings_Builder_WriteByte (10, (()), o3, ())).bind fun (o10, o11, _) => rec ((()), o11, (o9.1, o9.2.1, ()), ())
  else 
  (pvalue_reader_eat ((⟨#[92, 39]⟩ : ByteArray), (o9.1, o9.2.1, ()), ())).bind fun (y12, o13, _) => 
  (bif y12 then 
  (pstrings_Builder_WriteByte (39, (()), o3, ())).bind fun (o14, o15, _) => rec ((()), o15, (o13.1, o13.2.1, ()), ())
  else 
  (pvalue_reader_eat ((⟨#[92, 92]⟩ : ByteArray), (o13.1, o13.2.1, ()), ())).bind fun (y16, o17, _) => 
  (bif y16 then 
  (pstrings_Builder_WriteByte (92, (()), o3, ())).bind fun (o18, o19, _) => rec ((()), o19, (o17.1, o17.2.1, ()), ())
  else 
  (ssl o17.1 o17.2.1 (o17.1.size : Int)).bind fun s21 => 
  (decodeN (s21, ())).bind fun (y22, y23, _) => 
  (bif ((((y23 : Int) == 0) || (((y22 : Int) == 65533) && ((y23 : Int) == 1))) || ((y22 : Int) == 92)) || ((y22 : Int) == 10) then none
  else 
  (pstrings_Builder_WriteRune (y22, (()), o3, ())).bind fun (y24, o25, o26, _) => rec ((()), o26, (o17.1, IntKind.wrap .i64 (o17.2.1 + y23), ()), ()))))))

/-- (*value.reader).text -/
noncomputable def pvalue_reader_text (n : Nat) : (ByteArray × Int × Unit) × Unit → Option (ByteArray × (ByteArray × Int × Unit) × Unit) :=
  fun (o1, _) => 
  iterN (fun rc29 => pvalue_reader_text_s0 n rc29 (fun (_) => none) (fun (v27, o28, _) => some (v27, (o28.1, o28.2.1, ()), ()))) (n) ((()), ([] : List Int), (o1.1, o1.2.1, ()), ())

/-- a round of a loop of (*value.reader).value -/
noncomputable def pvalue_reader_value_s1 {ρ : Type} (self_pvalue_reader_value : Int × (ByteArray × Int × Unit) × Unit → Option (Ev.Val × (ByteArray × Int × Unit) × Unit)) (n : Nat) (rec : Int × (Ev.Val × Unit) × (Int × Int × ByteArray × Unit) × (List Ev.Val) × (ByteArray × Int × Unit) × Unit → Option ρ) (kx : Unit → Option ρ) (kr : (Int × Int × ByteArray × Unit) × (List Ev.Val) × (ByteArray × Int × Unit) × Unit → Option ρ) : Int × (Ev.Val × Unit) × (Int × Int × ByteArray × Unit) × (List Ev.Val) × (ByteArray × Int × Unit) × Unit → Option ρ :=
  fun (v19, o20, o21, o22, o23, _) => 
  (self_pvalue_reader_value (IntKind.wrap .i64 (v19 + 1), (o23.1, o23.2.1, ()), ())).bind fun (y25, o26, _) => 
  ck (room (o22 ++ ([(Ev.Val.mk y25.kind y25.n y25.s y25.l)] : List Ev.Val)).length 56) (
  (pvalue_reader_eat ((⟨#[93]⟩ : ByteArray), (o26.1, o26.2.1, ()), ())).bind fun (y27, o28, _) => 
  (bif y27 then kr ((o21.1, o21.2.1, o21.2.2.1, ()), o22 ++ ([(Ev.Val.mk y25.kind y25.n y25.s y25.l)] : List Ev.Val), (o28.1, o28.2.1, ()), ())
  else 
  (pvalue_reader_eat ((⟨#[44]⟩ : ByteArray), (o28.1, o28.2.1, ()), ())).bind fun (y29, o30, _) => 
  (bif !y29 then none
  else rec (v19, ((Ev.Val.mk o20.1.kind o20.1.n o20.1.s o20.1.l), ()), (o21.1, o21.2.1, o21.2.2.1, ()), o22 ++ ([(Ev.Val.mk y25.kind y25.n y25.s y25.l)] : List Ev.Val), (o30.1, o30.2.1, ()), ()))))

/-- a round of a loop of (*value.reader).value -/
noncomputable def pvalue_reader_value_s3 {ρ : Type} (self_pvalue_reader_value : Int × (ByteArray × Int × Unit) × Unit → Option (Ev.Val × (ByteArray × Int × Unit) × Unit)) (n : Nat) (rec : Int × (Ev.Val × Unit) × (ByteArray × Int × Unit) × Unit → Option ρ) (kx : Int × (Ev.Val × Unit) × (ByteArray × Int × Unit) × Unit → Option ρ) (kr : Unit → Option ρ) : Int × (Ev.Val × Unit) × (ByteArray × Int × Unit) × Unit → Option ρ :=
  fun (v37, o38, o39, _) => 
  (bif decide ((o39.2.1 : Int) < (o39.1.size : Int)) then 
  (sat o39.1 o39.2.1).bind fun c40 => 
  (bif decide ((c40 : Int) ≥ 48) then 
  (sat o39.1 o39.2.1).bind fun c41 => 
  (bif decide ((c41 : Int) ≤ 57) then rec (v37, ((Ev.Val.mk o38.1.kind o38.1.n o38.1.s o38.1.l), ()), (o39.1, IntKind.wrap .i64 (o39.2.1 + 1), ()), ())
  else kx (v37, ((Ev.Val.mk o38.1.kind o38.1.n o38.1.s o38.1.l), ()), (o39.1, o39.2.1, ()), ()))
  else kx (v37, ((Ev.Val.mk o38.1.kind o38.1.n o38.1.s o38.1.l), ()), (o39.1, o39.2.1, ()), ()))
  else kx (v37, ((Ev.Val.mk o38.1.kind o38.1.n o38.1.s o38.1.l), ()), (o39.1, o39.2.1, ()), ()))

/-- (*value.reader).value -/
noncomputable def pvalue_reader_value_b (self_pvalue_reader_value : Int × (ByteArray × Int × Unit) × Unit → Option (Ev.Val × (ByteArray × Int × Unit) × Unit)) (n : Nat) : Int × (ByteArray × Int × Unit) × Unit → Option (Ev.Val × (ByteArray × Int × Unit) × Unit) :=
  fun (a1, o2, _) => 
  (pvalue_reader_eat ((⟨#[110, 117, 108, 108]⟩ : ByteArray), (o2.1, o2.2.1, ()), ())).bind fun (y3, o4, _) => 
  (bif y3 then some ((Ev.Val.mk 0 0 (⟨#[]⟩ : ByteArray) ([] : List Ev.Val)), (o4.1, o4.2.1, ()), ())
  else 
  (pvalue_reader_eat ((⟨#[116, 114, 117, 101]⟩ : ByteArray), (o4.1, o4.2.1, ()), ())).bind fun (y5, o6, _) => 
  (bif y5 then 
  (value_truth (true, ())).bind fun (y7, _) => some ((Ev.Val.mk y7.kind y7.n y7.s y7.l), (o6.1, o6.2.1, ()), ())
  else 
  (pvalue_reader_eat ((⟨#[102, 97, 108, 115, 101]⟩ : ByteArray), (o6.1, o6.2.1, ()), ())).bind fun (y8, o9, _) => 
  (bif y8 then 
  (value_truth (false, ())).bind fun (y10, _) => some ((Ev.Val.mk y10.kind y10.n y10.s y10.l), (o9.1, o9.2.1, ()), ())
  else 
  (pvalue_reader_eat ((⟨#[39]⟩ : ByteArray), (o9.1, o9.2.1, ()), ())).bind fun (y11, o12, _) => 
  (bif y11 then 
  (pvalue_reader_text n ((o12.1, o12.2.1, ()), ())).bind fun (y13, o14, _) => some ((Ev.Val.mk 3 0 y13 ([] : List Ev.Val)), (o14.1, o14.2.1, ()), ())
  else 
  (pvalue_reader_eat ((⟨#[91]⟩ : ByteArray), (o12.1, o12.2.1, ()), ())).bind fun (y15, o16, _) => 
  (bif y15 then 
  (bif decide ((a1 : Int) > 40) then none
  else 
  (pvalue_reader_eat ((⟨#[93]⟩ : ByteArray), (o16.1, o16.2.1, ()), ())).bind fun (y17, o18, _) => 
  (bif y17 then some ((Ev.Val.mk 4 0 (⟨#[]⟩ : ByteArray) ([] : List Ev.Val)), (o18.1, o18.2.1, ()), ())
  else 
  iterN (fun rc34 => pvalue_reader_value_s1 self_pvalue_reader_value n rc34 (fun (_) => none) (fun (o31, o32, o33, _) => some ((Ev.Val.mk o31.1 o31.2.1 o31.2.2.1 o32), (o33.1, o33.2.1, ()), ()))) (n) (a1, ((Ev.Val.mk 0 0 (⟨#[]⟩ : ByteArray) ([] : List Ev.Val)), ()), (4, 0, (⟨#[]⟩ : ByteArray), ()), ([] : List Ev.Val), (o18.1, o18.2.1, ()), ())))
  else 
  (pvalue_reader_eat ((⟨#[45]⟩ : ByteArray), (o16.1, o16.2.1, ()), ())).bind fun (y35, o36, _) => 
  iterN (fun rc50 => pvalue_reader_value_s3 self_pvalue_reader_value n rc50 (fun (v42, o43, o44, _) => 
  (ssl o44.1 v42 o44.2.1).bind fun s46 => 
  (atoiN (s46, ())).bind fun (y47, _) => 
  (itoaN (y47, ())).bind fun (y48, _) => 
  (ssl o44.1 v42 o44.2.1).bind fun s49 => 
  (bif !(seq y48 s49) then none
  else some ((Ev.Val.mk 2 y47 (⟨#[]⟩ : ByteArray) ([] : List Ev.Val)), (o44.1, o44.2.1, ()), ()))) (fun (_) => none)) (n) (o2.2.1, ((Ev.Val.mk 0 0 (⟨#[]⟩ : ByteArray) ([] : List Ev.Val)), ()), (o36.1, o36.2.1, ()), ()))))))

noncomputable def pvalue_reader_value : Nat → Int × (ByteArray × Int × Unit) × Unit → Option (Ev.Val × (ByteArray × Int × Unit) × Unit)
  | 0, _ => none
  | n + 1, x => pvalue_reader_value_b (pvalue_reader_value n) n x

/-- value.Parse -/
noncomputable def value_Parse (n : Nat) : ByteArray × Unit → Option (Ev.Val × Int × Int × Unit) :=
  fun (a1, _) => 
  (bif decide (((a1.size : Int) : Int) > 4000) then some ((Ev.Val.mk 0 0 (⟨#[]⟩ : ByteArray) ([] : List Ev.Val)), 0, 2, ())
  else 
  (pvalue_reader_value n (1, (a1, 0, ()), ())).bind fun (y2, o3, _) => 
  (bif decide ((o3.2.1 : Int) < (a1.size : Int)) then none
  else 
  (value_Check n ((Ev.Val.mk y2.kind y2.n y2.s y2.l), ())).bind fun (y4, _) => 
  (bif (y4 : Int) != 0 then some ((Ev.Val.mk 0 0 (⟨#[]⟩ : ByteArray) ([] : List Ev.Val)), 0, y4, ())
  else some ((Ev.Val.mk y2.kind y2.n y2.s y2.l), 0, 0, ()))))

/-- bytes.Compare -/
noncomputable def bytes_Compare : (List Int) × (List Int) × Unit → Option (Int × Unit) :=
  fun (a1, a2, _) => 
  (cmpN (a1, a2, ())).bind fun (y3, _) => some (y3, ())

/-- a round of a loop of espalierref.OrderOf -/
noncomputable def espalierref_OrderOf_s1 {ρ : Type} (self_espalierref_OrderOf : Ev.Val × Ev.Val × Unit → Option (Int × Unit)) (n : Nat) (rec : Int × (Ev.Val × Unit) × (Ev.Val × Unit) × Unit → Option ρ) (kx : (Ev.Val × Unit) × (Ev.Val × Unit) × Unit → Option ρ) (kr : Int × Unit → Option ρ) : Int × (Ev.Val × Unit) × (Ev.Val × Unit) × Unit → Option ρ :=
  fun (v4, o5, o6, _) => 
  (bif (decide ((v4 : Int) < (o5.1.l.length : Int))) && (decide ((v4 : Int) < (o6.1.l.length : Int))) then 
  (ix o5.1.l v4).bind fun x9 => 
  (ix o6.1.l v4).bind fun x10 => 
  (self_espalierref_OrderOf ((Ev.Val.mk x9.kind x9.n x9.s x9.l), (Ev.Val.mk x10.kind x10.n x10.s x10.l), ())).bind fun (y11, _) => 
  (bif (y11 : Int) != 0 then kr (y11, ())
  else rec (IntKind.wrap .i64 (v4 + 1), ((Ev.Val.mk o5.1.kind o5.1.n o5.1.s o5.1.l), ()), ((Ev.Val.mk o6.1.kind o6.1.n o6.1.s o6.1.l), ()), ()))
  else kx (((Ev.Val.mk o5.1.kind o5.1.n o5.1.s o5.1.l), ()), ((Ev.Val.mk o6.1.kind o6.1.n o6.1.s o6.1.l), ()), ()))

/-- espalierref.OrderOf -/
noncomputable def espalierref_OrderOf_b (self_espalierref_OrderOf : Ev.Val × Ev.Val × Unit → Option (Int × Unit)) (n : Nat) : Ev.Val × Ev.Val × Unit → Option (Int × Unit) :=
  fun (a1, a2, _) => 
  (bif decide ((a1.kind : Int) < a2.kind) then some ((-1), ())
  else 
  (bif decide ((a1.kind : Int) > a2.kind) then some (1, ())
  else 
  (bif decide ((a1.n : Int) < a2.n) then some ((-1), ())
  else 
  (bif decide ((a1.n : Int) > a2.n) then some (1, ())
  else 
  (bif !(seq a1.s a2.s) then 
  (bytes_Compare (bytesI a1.s, bytesI a2.s, ())).bind fun (y3, _) => some (y3, ())
  else 
  iterN (fun rc15 => espalierref_OrderOf_s1 self_espalierref_OrderOf n rc15 (fun (o12, o13, _) => 
  (bif decide (((o12.1.l.length : Int) : Int) < (o13.1.l.length : Int)) then some ((-1), ())
  else 
  (bif decide (((o12.1.l.length : Int) : Int) > (o13.1.l.length : Int)) then some (1, ())
  else some (0, ())))) (fun (v14, _) => some (v14, ()))) (n) (0, ((Ev.Val.mk a1.kind a1.n a1.s a1.l), ()), ((Ev.Val.mk a2.kind a2.n a2.s a2.l), ()), ()))))))

noncomputable def espalierref_OrderOf : Nat → Ev.Val × Ev.Val × Unit → Option (Int × Unit)
  | 0, _ => none
  | n + 1, x => espalierref_OrderOf_b (espalierref_OrderOf n) n x

/-- espalierref.SameValue -/
noncomputable def espalierref_SameValue (n : Nat) : Ev.Val × Ev.Val × Unit → Option (Bool × Unit) :=
  fun (a1, a2, _) => 
  (espalierref_OrderOf n ((Ev.Val.mk a1.kind a1.n a1.s a1.l), (Ev.Val.mk a2.kind a2.n a2.s a2.l), ())).bind fun (y3, _) => some ((y3 : Int) == 0, ())

/-- espalierlaw.valued -/
noncomputable def espalierlaw_valued (n : Nat) : Unit → Option (Bool × Unit) :=
  fun (_) => 
  (espalierlaw_num ((-7), ())).bind fun (y1, _) => 
  (espalierlaw_str ((⟨#[105, 116, 39, 115]⟩ : ByteArray), ())).bind fun (y2, _) => 
  (espalierlaw_list (([(Ev.Val.mk y1.kind y1.n y1.s y1.l), (Ev.Val.mk y2.kind y2.n y2.s y2.l), (Ev.Val.mk 0 0 (⟨#[]⟩ : ByteArray) ([] : List Ev.Val))] : List Ev.Val), ())).bind fun (y3, _) => 
  (value_Print n ((Ev.Val.mk y3.kind y3.n y3.s y3.l), ())).bind fun (y4, y5, _) => 
  (value_Parse n ((⟨#[91, 45, 55, 44, 39, 105, 116, 92, 39, 115, 39, 44, 110, 117, 108, 108, 93]⟩ : ByteArray), ())).bind fun (y6, y7, y8, _) => 
  (bif ((((y5 : Int) == 0) && ((y8 : Int) == 0)) && ((y7 : Int) == 0)) && (seq y4 (⟨#[91, 45, 55, 44, 39, 105, 116, 92, 39, 115, 39, 44, 110, 117, 108, 108, 93]⟩ : ByteArray)) then 
  (espalierlaw_num ((-7), ())).bind fun (y9, _) => 
  (espalierlaw_str ((⟨#[105, 116, 39, 115]⟩ : ByteArray), ())).bind fun (y10, _) => 
  (espalierlaw_list (([(Ev.Val.mk y9.kind y9.n y9.s y9.l), (Ev.Val.mk y10.kind y10.n y10.s y10.l), (Ev.Val.mk 0 0 (⟨#[]⟩ : ByteArray) ([] : List Ev.Val))] : List Ev.Val), ())).bind fun (y11, _) => 
  (espalierref_SameValue n ((Ev.Val.mk y6.kind y6.n y6.s y6.l), (Ev.Val.mk y11.kind y11.n y11.s y11.l), ())).bind fun (y12, _) => some (y12, ())
  else some (false, ()))

/-- espalierlaw.ValueReckon -/
noncomputable def espalierlaw_ValueReckon (n : Nat) : ByteArray × Ev.Val × Ev.Val × Unit → Option (Bool × Unit) :=
  fun (a1, a2, a3, _) => 
  (value_Reckon n (a1, (Ev.Val.mk a2.kind a2.n a2.s a2.l), (Ev.Val.mk a3.kind a3.n a3.s a3.l), ())).bind fun (y4, y5, _) => 
  (espalierref_ReckonOf n (a1, (Ev.Val.mk a2.kind a2.n a2.s a2.l), (Ev.Val.mk a3.kind a3.n a3.s a3.l), ())).bind fun (y6, y7, _) => 
  (espalierlaw_valued n (())).bind fun (y8, _) => 
  (bif y8 && ((y5 : Int) == y7) then 
  (espalierref_SameValue n ((Ev.Val.mk y4.kind y4.n y4.s y4.l), (Ev.Val.mk y6.kind y6.n y6.s y6.l), ())).bind fun (y9, _) => some (y9, ())
  else some (false, ()))

end Pure

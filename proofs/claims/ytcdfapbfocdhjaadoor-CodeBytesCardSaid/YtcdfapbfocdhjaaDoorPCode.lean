/- Plain functions that compute what functions of the program compute (written by gen.py). -/
import Derived.Test.YtcdfapbfocdhjaaDoorEvLib
import Derived.Test.YtcdfapbfocdhjaaDoorPEnc
namespace Pure
open Esp Ev Go
set_option linter.unusedSimpArgs false
set_option linter.unusedVariables false

noncomputable def q6z_s1 {ρ : Type} (self_q6z : Ev.Val × Int × Unit → Option (Int × Unit)) (n : Nat) (rec : Int × (List Ev.Val) × Int × Int × (Ev.Val × Unit) × Unit → Option ρ) (kx : (Ev.Val × Unit) × Unit → Option ρ) (kr : Int × Unit → Option ρ) : Int × (List Ev.Val) × Int × Int × (Ev.Val × Unit) × Unit → Option ρ :=
  fun (v4, v5, v6, v7, o8, _) =>
  (bif decide ((v7 : Int) < v6) then
  (ix v5 v7).bind fun x9 =>
  (self_q6z ((Ev.Val.mk x9.kind x9.n x9.s x9.l), IntKind.wrap .i64 (v4 + 1), ())).bind fun (y10, _) =>
  (bif (y10 : Int) != 0 then kr (y10, ())
  else rec (v4, v5, v6, IntKind.wrap .i64 (v7 + 1), ((Ev.Val.mk o8.1.kind o8.1.n o8.1.s o8.1.l), ()), ()))
  else kx (((Ev.Val.mk o8.1.kind o8.1.n o8.1.s o8.1.l), ()), ()))

noncomputable def F_q6z_s1 {ρ : Type} (self_q6z : Ev.Val × Int × Unit → Option (Int × Unit)) (n : Nat) (kr : Int × Unit → Option ρ) : Int → Ev.Val → (Int × (Ev.Val × Unit) × Unit) → ((Int × (Ev.Val × Unit) × Unit) → Option ρ) → Option ρ :=
  fun v7 x9 (v4, o8, _) rec =>
  (self_q6z ((Ev.Val.mk x9.kind x9.n x9.s x9.l), IntKind.wrap .i64 (v4 + 1), ())).bind fun (y10, _) =>
  (bif (y10 : Int) != 0 then kr (y10, ())
  else rec (v4, ((Ev.Val.mk o8.1.kind o8.1.n o8.1.s o8.1.l), ()), ()))

theorem R_q6z_s1 {ρ : Type} (self_q6z : Ev.Val × Int × Unit → Option (Int × Unit)) (n : Nat) (kx : (Ev.Val × Unit) × Unit → Option ρ) (kr : Int × Unit → Option ρ) (l : List Ev.Val) (fuel : Nat) (v4 : Int) (o8 : Ev.Val × Unit) (hl : l.length ≤ 9223372036854775807) (hf : l.length < fuel) :
    iterN (fun rc => q6z_s1 self_q6z n rc kx kr) fuel (v4, l, (l.length : Int), 0, o8, ()) = foldK (F_q6z_s1 self_q6z n kr) (fun (v4, o8, _) => kx (((Ev.Val.mk o8.1.kind o8.1.n o8.1.s o8.1.l), ()), ())) 0 l (v4, o8, ()) :=
  range_listM l (fun i (v4, o8, _) => (v4, l, (l.length : Int), i, o8, ())) _ _ _ (fun rec i s => rfl) hl fuel (v4, o8, ()) hf

noncomputable def q6z_b (self_q6z : Ev.Val × Int × Unit → Option (Int × Unit)) (n : Nat) : Ev.Val × Int × Unit → Option (Int × Unit) :=
  fun (a1, a2, _) =>
  (bif (a1.kind : Int) == 0 then
  (bif !((((a1.n : Int) == 0) && (seq a1.s (⟨#[]⟩ : ByteArray))) && (((a1.l.length : Int) : Int) == 0)) then some (6, ())
  else some (0, ()))
  else
  (bif (a1.kind : Int) == 1 then
  (bif !(((((a1.n : Int) == 0) || ((a1.n : Int) == 1)) && (seq a1.s (⟨#[]⟩ : ByteArray))) && (((a1.l.length : Int) : Int) == 0)) then some (6, ())
  else some (0, ()))
  else
  (bif (a1.kind : Int) == 2 then
  (bif !((seq a1.s (⟨#[]⟩ : ByteArray)) && (((a1.l.length : Int) : Int) == 0)) then some (6, ())
  else some (0, ()))
  else
  (bif (a1.kind : Int) == 3 then
  (bif decide (((a1.s.size : Int) : Int) > 4000) then some (2, ())
  else
  (bif (a1.n : Int) == 0 then
  (validN (a1.s, ())).bind fun (y3, _) =>
  (bif !(y3 && (((a1.l.length : Int) : Int) == 0)) then some (6, ())
  else some (0, ()))
  else some (6, ())))
  else
  (bif (a1.kind : Int) == 4 then
  (bif (decide (((a1.l.length : Int) : Int) > 30)) || (decide ((a2 : Int) > 6)) then some (2, ())
  else
  iterN (fun rc13 => q6z_s1 self_q6z n rc13 (fun (o11, _) =>
  (bif !(((o11.1.n : Int) == 0) && (seq o11.1.s (⟨#[]⟩ : ByteArray))) then some (6, ())
  else some (0, ()))) (fun (v12, _) => some (v12, ()))) (n) (a2, a1.l, (a1.l.length : Int), 0, ((Ev.Val.mk a1.kind a1.n a1.s a1.l), ()), ()))
  else some (6, ()))))))

noncomputable def q6z : Nat → Ev.Val × Int × Unit → Option (Int × Unit)
  | 0, _ => none
  | n + 1, x => q6z_b (q6z n) n x

noncomputable def q5z (n : Nat) : Ev.Val × Unit → Option (Int × Unit) :=
  fun (a1, _) =>
  (q6z n ((Ev.Val.mk a1.kind a1.n a1.s a1.l), 1, ())).bind fun (y2, _) => some (y2, ())

noncomputable def q4z_s0 {ρ : Type} (n : Nat) (rec : Int × Int × (List Int) × Unit → Option ρ) (kx : (List Int) × Unit → Option ρ) (kr : Unit → Option ρ) : Int × Int × (List Int) × Unit → Option ρ :=
  fun (v4, v5, o6, _) =>
  (bif decide ((v5 : Int) ≥ 0) then
  (shamt (IntKind.wrap .i64 (8 * v5))).bind fun q7 =>
  ck (room (o6 ++ ([IntKind.wrap .u8 (bshr .u64 v4 q7)] : List Int)).length 1) (rec (v4, IntKind.wrap .i64 (v5 - 1), o6 ++ ([IntKind.wrap .u8 (bshr .u64 v4 q7)] : List Int), ()))
  else kx (o6, ()))

noncomputable def q4z (n : Nat) : Int × Int × (List Int) × Unit → Option ((List Int) × Unit) :=
  fun (a1, a2, o3, _) =>
  iterN (fun rc9 => q4z_s0 n rc9 (fun (o8, _) => some (o8, ())) (fun (_) => none)) (n) (a1, IntKind.wrap .i64 (a2 - 1), o3, ())

noncomputable def code_Put_s1 {ρ : Type} (self_code_Put : Ev.Val × (List Int) × Unit → Option ((List Int) × Unit)) (n : Nat) (rec : (List Ev.Val) × Int × Int × (List Int) × Unit → Option ρ) (kx : (List Int) × Unit → Option ρ) (kr : Unit → Option ρ) : (List Ev.Val) × Int × Int × (List Int) × Unit → Option ρ :=
  fun (v5, v6, v7, o8, _) =>
  (bif decide ((v7 : Int) < v6) then
  (ix v5 v7).bind fun x9 =>
  (self_code_Put ((Ev.Val.mk x9.kind x9.n x9.s x9.l), o8, ())).bind fun (o10, _) => rec (v5, v6, IntKind.wrap .i64 (v7 + 1), o10, ())
  else kx (o8, ()))

noncomputable def F_code_Put_s1 {ρ : Type} (self_code_Put : Ev.Val × (List Int) × Unit → Option ((List Int) × Unit)) (n : Nat) (kr : Unit → Option ρ) : Int → Ev.Val → ((List Int) × Unit) → (((List Int) × Unit) → Option ρ) → Option ρ :=
  fun v7 x9 (o8, _) rec =>
  (self_code_Put ((Ev.Val.mk x9.kind x9.n x9.s x9.l), o8, ())).bind fun (o10, _) => rec (o10, ())

theorem R_code_Put_s1 {ρ : Type} (self_code_Put : Ev.Val × (List Int) × Unit → Option ((List Int) × Unit)) (n : Nat) (kx : (List Int) × Unit → Option ρ) (kr : Unit → Option ρ) (l : List Ev.Val) (fuel : Nat) (o8 : List Int) (hl : l.length ≤ 9223372036854775807) (hf : l.length < fuel) :
    iterN (fun rc => code_Put_s1 self_code_Put n rc kx kr) fuel (l, (l.length : Int), 0, o8, ()) = foldK (F_code_Put_s1 self_code_Put n kr) (fun (o8, _) => kx (o8, ())) 0 l (o8, ()) :=
  range_listM l (fun i (o8, _) => (l, (l.length : Int), i, o8, ())) _ _ _ (fun rec i s => rfl) hl fuel (o8, ()) hf

noncomputable def code_Put_b (self_code_Put : Ev.Val × (List Int) × Unit → Option ((List Int) × Unit)) (n : Nat) : Ev.Val × (List Int) × Unit → Option ((List Int) × Unit) :=
  fun (a1, o2, _) =>
  ck (room (o2 ++ ([IntKind.wrap .u8 (a1.kind)] : List Int)).length 1) (
  (bif (a1.kind : Int) == 1 then
  (bif (a1.kind : Int) == 1 then
  (q4z n (bxor .u64 (IntKind.wrap .u64 (a1.n)) 9223372036854775808, 8, o2 ++ ([IntKind.wrap .u8 (a1.kind)] : List Int), ())).bind fun (o3, _) => some (o3, ())
  else
  (bif (a1.kind : Int) == 3 then
  (q4z n (IntKind.wrap .u64 ((a1.s.size : Int)), 2, o2 ++ ([IntKind.wrap .u8 (a1.kind)] : List Int), ())).bind fun (o4, _) =>
  ck (room (o4 ++ (bytesI a1.s)).length 1) (some (o4 ++ (bytesI a1.s), ()))
  else
  (bif (a1.kind : Int) == 4 then
  ck (room ((o2 ++ ([IntKind.wrap .u8 (a1.kind)] : List Int)) ++ ([IntKind.wrap .u8 ((a1.l.length : Int))] : List Int)).length 1) (
  iterN (fun rc12 => code_Put_s1 self_code_Put n rc12 (fun (o11, _) => some (o11, ())) (fun (_) => none)) (n) (a1.l, (a1.l.length : Int), 0, (o2 ++ ([IntKind.wrap .u8 (a1.kind)] : List Int)) ++ ([IntKind.wrap .u8 ((a1.l.length : Int))] : List Int), ()))
  else some (o2 ++ ([IntKind.wrap .u8 (a1.kind)] : List Int), ()))))
  else
  (bif (a1.kind : Int) == 2 then
  (q4z n (bxor .u64 (IntKind.wrap .u64 (a1.n)) 9223372036854775808, 8, o2 ++ ([IntKind.wrap .u8 (a1.kind)] : List Int), ())).bind fun (o13, _) => some (o13, ())
  else
  (bif (a1.kind : Int) == 3 then
  (q4z n (IntKind.wrap .u64 ((a1.s.size : Int)), 2, o2 ++ ([IntKind.wrap .u8 (a1.kind)] : List Int), ())).bind fun (o14, _) =>
  ck (room (o14 ++ (bytesI a1.s)).length 1) (some (o14 ++ (bytesI a1.s), ()))
  else
  (bif (a1.kind : Int) == 4 then
  ck (room ((o2 ++ ([IntKind.wrap .u8 (a1.kind)] : List Int)) ++ ([IntKind.wrap .u8 ((a1.l.length : Int))] : List Int)).length 1) (
  iterN (fun rc16 => code_Put_s1 self_code_Put n rc16 (fun (o15, _) => some (o15, ())) (fun (_) => none)) (n) (a1.l, (a1.l.length : Int), 0, (o2 ++ ([IntKind.wrap .u8 (a1.kind)] : List Int)) ++ ([IntKind.wrap .u8 ((a1.l.length : Int))] : List Int), ()))
  else some (o2 ++ ([IntKind.wrap .u8 (a1.kind)] : List Int), ()))))))

noncomputable def code_Put : Nat → Ev.Val × (List Int) × Unit → Option ((List Int) × Unit)
  | 0, _ => none
  | n + 1, x => code_Put_b (code_Put n) n x

noncomputable def q7z (n : Nat) : Ev.Val × Unit → Option (ByteArray × Int × Unit) :=
  fun (a1, _) =>
  (q5z n ((Ev.Val.mk a1.kind a1.n a1.s a1.l), ())).bind fun (y2, _) =>
  (bif (y2 : Int) != 0 then some ((⟨#[]⟩ : ByteArray), y2, ())
  else
  (code_Put n ((Ev.Val.mk a1.kind a1.n a1.s a1.l), ([] : List Int), ())).bind fun (o3, _) =>
  (bif decide (((o3.length : Int) : Int) > 8000) then some ((⟨#[]⟩ : ByteArray), 2, ())
  else
  (str? o3).bind fun s4 => some (s4, 0, ())))

noncomputable def q0z_s1 {ρ : Type} (self_q0z : Ev.Val × Int × Unit → Option (Int × Unit)) (n : Nat) (rec : Int × Bool × Bool × (List Ev.Val) × Int × Int × Unit → Option ρ) (kx : Bool × Bool × Unit → Option ρ) (kr : Int × Unit → Option ρ) : Int × Bool × Bool × (List Ev.Val) × Int × Int × Unit → Option ρ :=
  fun (v3, v4, v5, v6, v7, v8, _) =>
  (bif decide ((v8 : Int) < v7) then
  (ix v6 v8).bind fun x9 =>
  (self_q0z ((Ev.Val.mk x9.kind x9.n x9.s x9.l), IntKind.wrap .i64 (v3 + 1), ())).bind fun (y10, _) =>
  (bif (y10 : Int) != 0 then kr (y10, ())
  else rec (v3, v4, v5, v6, v7, IntKind.wrap .i64 (v8 + 1), ()))
  else kx (v4, v5, ()))

noncomputable def F_q0z_s1 {ρ : Type} (self_q0z : Ev.Val × Int × Unit → Option (Int × Unit)) (n : Nat) (kr : Int × Unit → Option ρ) : Int → Ev.Val → (Int × Bool × Bool × Unit) → ((Int × Bool × Bool × Unit) → Option ρ) → Option ρ :=
  fun v8 x9 (v3, v4, v5, _) rec =>
  (self_q0z ((Ev.Val.mk x9.kind x9.n x9.s x9.l), IntKind.wrap .i64 (v3 + 1), ())).bind fun (y10, _) =>
  (bif (y10 : Int) != 0 then kr (y10, ())
  else rec (v3, v4, v5, ()))

theorem R_q0z_s1 {ρ : Type} (self_q0z : Ev.Val × Int × Unit → Option (Int × Unit)) (n : Nat) (kx : Bool × Bool × Unit → Option ρ) (kr : Int × Unit → Option ρ) (l : List Ev.Val) (fuel : Nat) (v3 : Int) (v4 : Bool) (v5 : Bool) (hl : l.length ≤ 9223372036854775807) (hf : l.length < fuel) :
    iterN (fun rc => q0z_s1 self_q0z n rc kx kr) fuel (v3, v4, v5, l, (l.length : Int), 0, ()) = foldK (F_q0z_s1 self_q0z n kr) (fun (v3, v4, v5, _) => kx (v4, v5, ())) 0 l (v3, v4, v5, ()) :=
  range_listM l (fun i (v3, v4, v5, _) => (v3, v4, v5, l, (l.length : Int), i, ())) _ _ _ (fun rec i s => rfl) hl fuel (v3, v4, v5, ()) hf

noncomputable def q0z_b (self_q0z : Ev.Val × Int × Unit → Option (Int × Unit)) (n : Nat) : Ev.Val × Int × Unit → Option (Int × Unit) :=
  fun (a1, a2, _) =>
  (bif (a1.kind : Int) == 4 then
  (bif (decide (((a1.l.length : Int) : Int) > 30)) || (decide ((a2 : Int) > 6)) then some (2, ())
  else
  iterN (fun rc14 => q0z_s1 self_q0z n rc14 (fun (v11, v12, _) =>
  (bif v11 && v12 then some (0, ())
  else some (6, ()))) (fun (v13, _) => some (v13, ()))) (n) (a2, (a1.n : Int) == 0, seq a1.s (⟨#[]⟩ : ByteArray), a1.l, (a1.l.length : Int), 0, ()))
  else
  (bif (a1.kind : Int) == 3 then
  (bif decide (((a1.s.size : Int) : Int) > 4000) then some (2, ())
  else
  (bif ((a1.n : Int) == 0) && (((a1.l.length : Int) : Int) == 0) then
  (validN (a1.s, ())).bind fun (y15, _) =>
  (bif y15 then some (0, ())
  else some (6, ()))
  else some (6, ())))
  else
  (bif (a1.kind : Int) == 0 then
  (bif (((a1.n : Int) == 0) && (seq a1.s (⟨#[]⟩ : ByteArray))) && (((a1.l.length : Int) : Int) == 0) then some (0, ())
  else some (6, ()))
  else
  (bif (a1.kind : Int) == 1 then
  (bif ((((a1.n : Int) == 0) || ((a1.n : Int) == 1)) && (seq a1.s (⟨#[]⟩ : ByteArray))) && (((a1.l.length : Int) : Int) == 0) then some (0, ())
  else some (6, ()))
  else
  (bif (a1.kind : Int) == 2 then
  (bif (seq a1.s (⟨#[]⟩ : ByteArray)) && (((a1.l.length : Int) : Int) == 0) then some (0, ())
  else some (6, ()))
  else some (6, ()))))))

noncomputable def q0z : Nat → Ev.Val × Int × Unit → Option (Int × Unit)
  | 0, _ => none
  | n + 1, x => q0z_b (q0z n) n x

noncomputable def q3z : Int × Unit → Option (Ev.Val × Unit) :=
  fun (a1, _) => some ((Ev.Val.mk 2 a1 (⟨#[]⟩ : ByteArray) ([] : List Ev.Val)), ())

noncomputable def code_sum_s2 {ρ : Type} (n : Nat) (rec : ByteArray × Int × Int × Int × Int × Unit → Option ρ) (kx : ByteArray × Int × Int × Int × Unit → Option ρ) (kr : Unit → Option ρ) : ByteArray × Int × Int × Int × Int × Unit → Option ρ :=
  fun (v7, v8, v9, v10, v11, _) =>
  (bif decide ((v11 : Int) < 8) then rec (v7, bxor .u32 (bshr .u32 v8 1) (band .u32 3988292384 (IntKind.wrap .u32 (0 - (band .u32 v8 1)))), v9, v10, IntKind.wrap .i64 (v11 + 1), ())
  else kx (v7, v8, v9, v10, ()))

noncomputable def code_sum_s0 {ρ : Type} (n : Nat) (rec : ByteArray × Int × Int × Int × Unit → Option ρ) (kx : Int × Unit → Option ρ) (kr : Unit → Option ρ) : ByteArray × Int × Int × Int × Unit → Option ρ :=
  fun (v2, v3, v4, v5, _) =>
  (bif decide ((v5 : Int) < v4) then
  (sat v2 v5).bind fun c6 =>
  iterN (fun rc16 => code_sum_s2 n rc16 (fun (v12, v13, v14, v15, _) => rec (v12, v13, v14, IntKind.wrap .i64 (v15 + 1), ())) (fun (_) => none)) (n) (v2, bxor .u32 v3 (IntKind.wrap .u32 (c6)), v4, v5, 0, ())
  else kx (v3, ()))

noncomputable def code_sum (n : Nat) : ByteArray × Unit → Option (Int × Unit) :=
  fun (a1, _) =>
  iterN (fun rc18 => code_sum_s0 n rc18 (fun (v17, _) => some (IntKind.wrap .u64 (bnot .u32 v17), ())) (fun (_) => none)) (n) (a1, 4294967295, (a1.size : Int), 0, ())

noncomputable def q8z (n : Nat) : ByteArray × Unit → Option (ByteArray × Int × Unit) :=
  fun (a1, _) =>
  (bif seq a1 (⟨#[]⟩ : ByteArray) then some ((⟨#[]⟩ : ByteArray), 6, ())
  else
  (bif decide (((a1.size : Int) : Int) > 8000) then some ((⟨#[]⟩ : ByteArray), 2, ())
  else
  (q4z n (IntKind.wrap .u64 ((a1.size : Int)), 4, ([] : List Int), ())).bind fun (o2, _) =>
  (code_sum n (a1, ())).bind fun (y3, _) =>
  (q4z n (y3, 4, o2, ())).bind fun (o4, _) =>
  (str? o4).bind fun s5 =>
  (cat? s5 a1).bind fun s6 => some (s6, 0, ())))

noncomputable def q2z (n : Nat) : Unit → Option (Bool × Unit) :=
  fun (_) =>
  (q3z (1, ())).bind fun (y1, _) =>
  (q7z n ((Ev.Val.mk y1.kind y1.n y1.s y1.l), ())).bind fun (y2, y3, _) =>
  (q8z n ((⟨#[97]⟩ : ByteArray), ())).bind fun (y4, y5, _) => some (((((y3 : Int) == 0) && ((y5 : Int) == 0)) && (seq y2 (⟨#[2, 128, 0, 0, 0, 0, 0, 0, 1]⟩ : ByteArray))) && (seq y4 (⟨#[0, 0, 0, 1, 232, 183, 190, 67, 97]⟩ : ByteArray)), ())

noncomputable def q1z (n : Nat) : Ev.Val × Unit → Option (Bool × Unit) :=
  fun (a1, _) =>
  (q7z n ((Ev.Val.mk a1.kind a1.n a1.s a1.l), ())).bind fun (y2, y3, _) =>
  (q0z n ((Ev.Val.mk a1.kind a1.n a1.s a1.l), 1, ())).bind fun (y4, _) =>
  (q2z n (())).bind fun (y5, _) =>
  (bif (!y5) || ((y4 : Int) != 0) then
  (q2z n (())).bind fun (y6, _) => some ((y6 && ((y3 : Int) == y4)) && (seq y2 (⟨#[]⟩ : ByteArray)), ())
  else
  (bytesOfN ((Ev.Val.mk a1.kind a1.n a1.s a1.l), ())).bind fun (y7, _) =>
  (bif decide (((y7.size : Int) : Int) > 8000) then some (((y3 : Int) == 2) && (seq y2 (⟨#[]⟩ : ByteArray)), ())
  else some (((y3 : Int) == 0) && (seq y2 y7), ())))

end Pure

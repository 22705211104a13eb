/- Plain functions that compute what functions of the program compute (written by gen.py). -/
import Derived.Test.YtnfoajgolcenlaaDoorEvLib
import Derived.Test.YtnfoajgolcenlaaDoorPRange
namespace Pure
open Esp Ev Go
set_option linter.unusedSimpArgs false
set_option linter.unusedVariables false

/-- a round of a loop of value.check -/
noncomputable def value_check_s1 {ρ : Type} (self_value_check : Ev.Val × Int × Unit → Option (Int × Unit)) (n : Nat) (rec : Int × (List Ev.Val) × Int × Int × (Ev.Val × Unit) × Unit → Option ρ) (kx : (Ev.Val × Unit) × Unit → Option ρ) (kr : Int × Unit → Option ρ) : Int × (List Ev.Val) × Int × Int × (Ev.Val × Unit) × Unit → Option ρ :=
  fun (v4, v5, v6, v7, o8, _) => 
  (bif decide ((v7 : Int) < v6) then 
  (ix v5 v7).bind fun x9 => 
  (self_value_check ((Ev.Val.mk x9.kind x9.n x9.s x9.l), IntKind.wrap .i64 (v4 + 1), ())).bind fun (y10, _) => 
  (bif (y10 : Int) != 0 then kr (y10, ())
  else rec (v4, v5, v6, IntKind.wrap .i64 (v7 + 1), ((Ev.Val.mk o8.1.kind o8.1.n o8.1.s o8.1.l), ()), ()))
  else kx (((Ev.Val.mk o8.1.kind o8.1.n o8.1.s o8.1.l), ()), ()))

noncomputable def F_value_check_s1 {ρ : Type} (self_value_check : Ev.Val × Int × Unit → Option (Int × Unit)) (n : Nat) (kr : Int × Unit → Option ρ) : Int → Ev.Val → (Int × (Ev.Val × Unit) × Unit) → ((Int × (Ev.Val × Unit) × Unit) → Option ρ) → Option ρ :=
  fun v7 x9 (v4, o8, _) rec =>  
  (self_value_check ((Ev.Val.mk x9.kind x9.n x9.s x9.l), IntKind.wrap .i64 (v4 + 1), ())).bind fun (y10, _) => 
  (bif (y10 : Int) != 0 then kr (y10, ())
  else rec (v4, ((Ev.Val.mk o8.1.kind o8.1.n o8.1.s o8.1.l), ()), ()))

theorem R_value_check_s1 {ρ : Type} (self_value_check : Ev.Val × Int × Unit → Option (Int × Unit)) (n : Nat) (kx : (Ev.Val × Unit) × Unit → Option ρ) (kr : Int × Unit → Option ρ) (l : List Ev.Val) (fuel : Nat) (v4 : Int) (o8 : Ev.Val × Unit) (hl : l.length ≤ 9223372036854775807) (hf : l.length < fuel) :
    iterN (fun rc => value_check_s1 self_value_check n rc kx kr) fuel (v4, l, (l.length : Int), 0, o8, ()) = foldK (F_value_check_s1 self_value_check n kr) (fun (v4, o8, _) => kx (((Ev.Val.mk o8.1.kind o8.1.n o8.1.s o8.1.l), ()), ())) 0 l (v4, o8, ()) :=
  range_listM l (fun i (v4, o8, _) => (v4, l, (l.length : Int), i, o8, ())) _ _ _ (fun rec i s => rfl) hl fuel (v4, o8, ()) hf

/-- value.check -/
noncomputable def value_check_b (self_value_check : Ev.Val × Int × Unit → Option (Int × Unit)) (n : Nat) : Ev.Val × Int × Unit → Option (Int × Unit) :=
  fun (a1, a2, _) => 
  (bif (a1.kind : Int) == 0 then 
  (bif !((((a1.n : Int) == 0) && (seq a1.s (⟨#[]⟩ : ByteArray))) && (((a1.l.length : Int) : Int) == 0)) then some (6, ())
  else some (0, ()))
  else 
  (bif (a1.kind : Int) == 1 then 
  (bif !(((((a1.n : Int) == 0) || ((a1.n : Int) == 1)) && (seq a1.s (⟨#[]⟩ : ByteArray))) && (((a1.l.length : Int) : Int) == 0)) then some (6, ())
  else some (0, ()))
  else 
  (bif (a1.kind : Int) == 2 then 
  (bif !((seq a1.s (⟨#[]⟩ : ByteArray)) && (((a1.l.length : Int) : Int) == 0)) then some (6, ())
  else some (0, ()))
  else 
  (bif (a1.kind : Int) == 3 then 
  (bif decide (((a1.s.size : Int) : Int) > 4000) then some (2, ())
  else 
  (bif (a1.n : Int) == 0 then 
  (validN (a1.s, ())).bind fun (y3, _) => 
  (bif !(y3 && (((a1.l.length : Int) : Int) == 0)) then some (6, ())
  else some (0, ()))
  else some (6, ())))
  else 
  (bif (a1.kind : Int) == 4 then 
  (bif (decide (((a1.l.length : Int) : Int) > 30)) || (decide ((a2 : Int) > 6)) then some (2, ())
  else 
  iterN (fun rc13 => value_check_s1 self_value_check n rc13 (fun (o11, _) => 
  (bif !(((o11.1.n : Int) == 0) && (seq o11.1.s (⟨#[]⟩ : ByteArray))) then some (6, ())
  else some (0, ()))) (fun (v12, _) => some (v12, ()))) (n) (a2, a1.l, (a1.l.length : Int), 0, ((Ev.Val.mk a1.kind a1.n a1.s a1.l), ()), ()))
  else some (6, ()))))))

noncomputable def value_check : Nat → Ev.Val × Int × Unit → Option (Int × Unit)
  | 0, _ => none
  | n + 1, x => value_check_b (value_check n) n x

/-- value.Check -/
noncomputable def value_Check (n : Nat) : Ev.Val × Unit → Option (Int × Unit) :=
  fun (a1, _) => 
  (value_check n ((Ev.Val.mk a1.kind a1.n a1.s a1.l), 1, ())).bind fun (y2, _) => some (y2, ())

/-- cmp.isNaN int  -/
noncomputable def cmp_isNaN_int : Int × Unit → Option (Bool × Unit) :=
  fun (a1, _) => some ((a1 : Int) != a1, ())

/-- cmp.Compare int  -/
noncomputable def cmp_Compare_int : Int × Int × Unit → Option (Int × Unit) :=
  fun (a1, a2, _) => 
  (cmp_isNaN_int (a1, ())).bind fun (y3, _) => 
  (cmp_isNaN_int (a2, ())).bind fun (y4, _) => 
  (bif y3 then 
  (bif y4 then some (0, ())
  else some ((-1), ()))
  else 
  (bif y4 then some (1, ())
  else 
  (bif decide ((a1 : Int) < a2) then some ((-1), ())
  else 
  (bif decide ((a1 : Int) > a2) then some (1, ())
  else some (0, ())))))

/-- cmp.isNaN string  -/
noncomputable def cmp_isNaN_string : ByteArray × Unit → Option (Bool × Unit) :=
  fun (a1, _) => some (!(seq a1 a1), ())

/-- cmp.Compare string  -/
noncomputable def cmp_Compare_string : ByteArray × ByteArray × Unit → Option (Int × Unit) :=
  fun (a1, a2, _) => 
  (cmp_isNaN_string (a1, ())).bind fun (y3, _) => 
  (cmp_isNaN_string (a2, ())).bind fun (y4, _) => 
  (bif y3 then 
  (bif y4 then some (0, ())
  else some ((-1), ()))
  else 
  (bif y4 then some (1, ())
  else 
  (bif sless a1 a2 then some ((-1), ())
  else 
  (bif !(sless a1 a2 || seq a1 a2) then some (1, ())
  else some (0, ())))))

/-- a round of a loop of slices.CompareFunc   api.Value,  api.Value,api.Value,api.Value  -/
noncomputable def slices_CompareFunc_api_Value_api_Value_api_Value_api_Value_value_Order_s0 {ρ : Type} (self_value_Order : Ev.Val × Ev.Val × Unit → Option (Int × Unit)) (n : Nat) (rec : (List Ev.Val) × (List Ev.Val) × (List Ev.Val) × Int × Int × Unit → Option ρ) (kx : (List Ev.Val) × (List Ev.Val) × Unit → Option ρ) (kr : Int × Unit → Option ρ) : (List Ev.Val) × (List Ev.Val) × (List Ev.Val) × Int × Int × Unit → Option ρ :=
  fun (v3, v4, v5, v6, v7, _) => 
  (bif decide ((v7 : Int) < v6) then 
  (ix v5 v7).bind fun x8 => 
  (bif decide ((v7 : Int) ≥ (v4.length : Int)) then kr (1, ())
  else 
  (ix v4 v7).bind fun x9 => 
  (self_value_Order ((Ev.Val.mk x8.kind x8.n x8.s x8.l), (Ev.Val.mk x9.kind x9.n x9.s x9.l), ())).bind fun (y10, _) => 
  (bif (y10 : Int) != 0 then kr (y10, ())
  else rec (v3, v4, v5, v6, IntKind.wrap .i64 (v7 + 1), ())))
  else kx (v3, v4, ()))

noncomputable def F_slices_CompareFunc_api_Value_api_Value_api_Value_api_Value_value_Order_s0 {ρ : Type} (self_value_Order : Ev.Val × Ev.Val × Unit → Option (Int × Unit)) (n : Nat) (kr : Int × Unit → Option ρ) : Int → Ev.Val → ((List Ev.Val) × (List Ev.Val) × Unit) → (((List Ev.Val) × (List Ev.Val) × Unit) → Option ρ) → Option ρ :=
  fun v7 x8 (v3, v4, _) rec =>  
  (bif decide ((v7 : Int) ≥ (v4.length : Int)) then kr (1, ())
  else 
  (ix v4 v7).bind fun x9 => 
  (self_value_Order ((Ev.Val.mk x8.kind x8.n x8.s x8.l), (Ev.Val.mk x9.kind x9.n x9.s x9.l), ())).bind fun (y10, _) => 
  (bif (y10 : Int) != 0 then kr (y10, ())
  else rec (v3, v4, ())))

theorem R_slices_CompareFunc_api_Value_api_Value_api_Value_api_Value_value_Order_s0 {ρ : Type} (self_value_Order : Ev.Val × Ev.Val × Unit → Option (Int × Unit)) (n : Nat) (kx : (List Ev.Val) × (List Ev.Val) × Unit → Option ρ) (kr : Int × Unit → Option ρ) (l : List Ev.Val) (fuel : Nat) (v3 : List Ev.Val) (v4 : List Ev.Val) (hl : l.length ≤ 9223372036854775807) (hf : l.length < fuel) :
    iterN (fun rc => slices_CompareFunc_api_Value_api_Value_api_Value_api_Value_value_Order_s0 self_value_Order n rc kx kr) fuel (v3, v4, l, (l.length : Int), 0, ()) = foldK (F_slices_CompareFunc_api_Value_api_Value_api_Value_api_Value_value_Order_s0 self_value_Order n kr) (fun (v3, v4, _) => kx (v3, v4, ())) 0 l (v3, v4, ()) :=
  range_listM l (fun i (v3, v4, _) => (v3, v4, l, (l.length : Int), i, ())) _ _ _ (fun rec i s => rfl) hl fuel (v3, v4, ()) hf

/-- slices.CompareFunc   api.Value,  api.Value,api.Value,api.Value  -/
noncomputable def slices_CompareFunc_api_Value_api_Value_api_Value_api_Value_value_Order (self_value_Order : Ev.Val × Ev.Val × Unit → Option (Int × Unit)) (n : Nat) : (List Ev.Val) × (List Ev.Val) × Unit → Option (Int × Unit) :=
  fun (a1, a2, _) => 
  iterN (fun rc14 => slices_CompareFunc_api_Value_api_Value_api_Value_api_Value_value_Order_s0 self_value_Order n rc14 (fun (v11, v12, _) => 
  (bif decide (((v11.length : Int) : Int) < (v12.length : Int)) then some ((-1), ())
  else some (0, ()))) (fun (v13, _) => some (v13, ()))) (n) (a1, a2, a1, (a1.length : Int), 0, ())

/-- a round of a loop of cmp.Or int  -/
noncomputable def cmp_Or_int_s0 {ρ : Type} (n : Nat) (rec : Int × (List Int) × Int × Int × Unit → Option ρ) (kx : Int × Unit → Option ρ) (kr : Int × Unit → Option ρ) : Int × (List Int) × Int × Int × Unit → Option ρ :=
  fun (v2, v3, v4, v5, _) => 
  (bif decide ((v5 : Int) < v4) then 
  (ix v3 v5).bind fun x6 => 
  (bif (x6 : Int) != v2 then kr (x6, ())
  else rec (v2, v3, v4, IntKind.wrap .i64 (v5 + 1), ()))
  else kx (v2, ()))

noncomputable def F_cmp_Or_int_s0 {ρ : Type} (n : Nat) (kr : Int × Unit → Option ρ) : Int → Int → (Int × Unit) → ((Int × Unit) → Option ρ) → Option ρ :=
  fun v5 x6 (v2, _) rec =>  
  (bif (x6 : Int) != v2 then kr (x6, ())
  else rec (v2, ()))

theorem R_cmp_Or_int_s0 {ρ : Type} (n : Nat) (kx : Int × Unit → Option ρ) (kr : Int × Unit → Option ρ) (l : List Int) (fuel : Nat) (v2 : Int) (hl : l.length ≤ 9223372036854775807) (hf : l.length < fuel) :
    iterN (fun rc => cmp_Or_int_s0 n rc kx kr) fuel (v2, l, (l.length : Int), 0, ()) = foldK (F_cmp_Or_int_s0 n kr) (fun (v2, _) => kx (v2, ())) 0 l (v2, ()) :=
  range_listM l (fun i (v2, _) => (v2, l, (l.length : Int), i, ())) _ _ _ (fun rec i s => rfl) hl fuel (v2, ()) hf

/-- cmp.Or int  -/
noncomputable def cmp_Or_int (n : Nat) : (List Int) × Unit → Option (Int × Unit) :=
  fun (a1, _) => 
  iterN (fun rc9 => cmp_Or_int_s0 n rc9 (fun (v7, _) => some (v7, ())) (fun (v8, _) => some (v8, ()))) (n) (0, a1, (a1.length : Int), 0, ())

/-- value.Order -/
noncomputable def value_Order_b (self_value_Order : Ev.Val × Ev.Val × Unit → Option (Int × Unit)) (n : Nat) : Ev.Val × Ev.Val × Unit → Option (Int × Unit) :=
  fun (a1, a2, _) => 
  (cmp_Compare_int (a1.kind, a2.kind, ())).bind fun (y3, _) => 
  (bif (y3 : Int) != 0 then some (y3, ())
  else 
  (cmp_Compare_int (a1.n, a2.n, ())).bind fun (y4, _) => 
  (cmp_Compare_string (a1.s, a2.s, ())).bind fun (y5, _) => 
  (slices_CompareFunc_api_Value_api_Value_api_Value_api_Value_value_Order self_value_Order n (a1.l, a2.l, ())).bind fun (y6, _) => 
  (cmp_Or_int n (([y4, y5, y6] : List Int), ())).bind fun (y7, _) => some (y7, ()))

noncomputable def value_Order : Nat → Ev.Val × Ev.Val × Unit → Option (Int × Unit)
  | 0, _ => none
  | n + 1, x => value_Order_b (value_Order n) n x

/-- a round of a loop of slices.CompareFunc api.Row,api.Row,api.Value,api.Value  -/
noncomputable def slices_CompareFunc_api_Row_api_Row_api_Value_api_Value_value_Order_s0 {ρ : Type} (n : Nat) (rec : (List Ev.Val) × (List Ev.Val) × (List Ev.Val) × Int × Int × Unit → Option ρ) (kx : (List Ev.Val) × (List Ev.Val) × Unit → Option ρ) (kr : Int × Unit → Option ρ) : (List Ev.Val) × (List Ev.Val) × (List Ev.Val) × Int × Int × Unit → Option ρ :=
  fun (v3, v4, v5, v6, v7, _) => 
  (bif decide ((v7 : Int) < v6) then 
  (ix v5 v7).bind fun x8 => 
  (bif decide ((v7 : Int) ≥ (v4.length : Int)) then kr (1, ())
  else 
  (ix v4 v7).bind fun x9 => 
  (value_Order n ((Ev.Val.mk x8.kind x8.n x8.s x8.l), (Ev.Val.mk x9.kind x9.n x9.s x9.l), ())).bind fun (y10, _) => 
  (bif (y10 : Int) != 0 then kr (y10, ())
  else rec (v3, v4, v5, v6, IntKind.wrap .i64 (v7 + 1), ())))
  else kx (v3, v4, ()))

noncomputable def F_slices_CompareFunc_api_Row_api_Row_api_Value_api_Value_value_Order_s0 {ρ : Type} (n : Nat) (kr : Int × Unit → Option ρ) : Int → Ev.Val → ((List Ev.Val) × (List Ev.Val) × Unit) → (((List Ev.Val) × (List Ev.Val) × Unit) → Option ρ) → Option ρ :=
  fun v7 x8 (v3, v4, _) rec =>  
  (bif decide ((v7 : Int) ≥ (v4.length : Int)) then kr (1, ())
  else 
  (ix v4 v7).bind fun x9 => 
  (value_Order n ((Ev.Val.mk x8.kind x8.n x8.s x8.l), (Ev.Val.mk x9.kind x9.n x9.s x9.l), ())).bind fun (y10, _) => 
  (bif (y10 : Int) != 0 then kr (y10, ())
  else rec (v3, v4, ())))

theorem R_slices_CompareFunc_api_Row_api_Row_api_Value_api_Value_value_Order_s0 {ρ : Type} (n : Nat) (kx : (List Ev.Val) × (List Ev.Val) × Unit → Option ρ) (kr : Int × Unit → Option ρ) (l : List Ev.Val) (fuel : Nat) (v3 : List Ev.Val) (v4 : List Ev.Val) (hl : l.length ≤ 9223372036854775807) (hf : l.length < fuel) :
    iterN (fun rc => slices_CompareFunc_api_Row_api_Row_api_Value_api_Value_value_Order_s0 n rc kx kr) fuel (v3, v4, l, (l.length : Int), 0, ()) = foldK (F_slices_CompareFunc_api_Row_api_Row_api_Value_api_Value_value_Order_s0 n kr) (fun (v3, v4, _) => kx (v3, v4, ())) 0 l (v3, v4, ()) :=
  range_listM l (fun i (v3, v4, _) => (v3, v4, l, (l.length : Int), i, ())) _ _ _ (fun rec i s => rfl) hl fuel (v3, v4, ()) hf

/-- slices.CompareFunc api.Row,api.Row,api.Value,api.Value  -/
noncomputable def slices_CompareFunc_api_Row_api_Row_api_Value_api_Value_value_Order (n : Nat) : (List Ev.Val) × (List Ev.Val) × Unit → Option (Int × Unit) :=
  fun (a1, a2, _) => 
  iterN (fun rc14 => slices_CompareFunc_api_Row_api_Row_api_Value_api_Value_value_Order_s0 n rc14 (fun (v11, v12, _) => 
  (bif decide (((v11.length : Int) : Int) < (v12.length : Int)) then some ((-1), ())
  else some (0, ()))) (fun (v13, _) => some (v13, ()))) (n) (a1, a2, a1, (a1.length : Int), 0, ())

/-- bag.Compare -/
noncomputable def bag_Compare (n : Nat) : (List Ev.Val) × (List Ev.Val) × Unit → Option (Int × Unit) :=
  fun (a1, a2, _) => 
  (slices_CompareFunc_api_Row_api_Row_api_Value_api_Value_value_Order n (a1, a2, ())).bind fun (y3, _) => some (y3, ())

/-- a round of a loop of bag.Check -/
noncomputable def bag_Check_s2 {ρ : Type} (n : Nat) (rec : (List Ev.Cnt) × Int × (List Ev.Cnt) × Int × Int × (List Ev.Val) × Int × Int × (Ev.Cnt × Unit) × Unit → Option ρ) (kx : (List Ev.Cnt) × Int × (List Ev.Cnt) × Int × Int × (Ev.Cnt × Unit) × Unit → Option ρ) (kr : Int × Unit → Option ρ) : (List Ev.Cnt) × Int × (List Ev.Cnt) × Int × Int × (List Ev.Val) × Int × Int × (Ev.Cnt × Unit) × Unit → Option ρ :=
  fun (v7, v8, v9, v10, v11, v12, v13, v14, o15, _) => 
  (bif decide ((v14 : Int) < v13) then 
  (ix v12 v14).bind fun x16 => 
  (value_Check n ((Ev.Val.mk x16.kind x16.n x16.s x16.l), ())).bind fun (y17, _) => 
  (bif (y17 : Int) != 0 then kr (y17, ())
  else rec (v7, v8, v9, v10, v11, v12, v13, IntKind.wrap .i64 (v14 + 1), ((Ev.Cnt.mk o15.1.r o15.1.n), ()), ()))
  else kx (v7, v8, v9, v10, v11, ((Ev.Cnt.mk o15.1.r o15.1.n), ()), ()))

/-- a round of a loop of bag.Check -/
noncomputable def bag_Check_s0 {ρ : Type} (n : Nat) (rec : (List Ev.Cnt) × (List Ev.Cnt) × Int × Int × Unit → Option ρ) (kx : Unit → Option ρ) (kr : Int × Unit → Option ρ) : (List Ev.Cnt) × (List Ev.Cnt) × Int × Int × Unit → Option ρ :=
  fun (v2, v3, v4, v5, _) => 
  (bif decide ((v5 : Int) < v4) then 
  (ix v3 v5).bind fun x6 => 
  (bif decide (((x6.r.length : Int) : Int) > 30) then kr (2, ())
  else 
  iterN (fun rc27 => bag_Check_s2 n rc27 (fun (v18, v19, v20, v21, v22, o23, _) => 
  (bif (o23.1.n : Int) == 0 then kr (6, ())
  else 
  (bif decide ((v19 : Int) > 0) then 
  (ix v18 (IntKind.wrap .i64 (v19 - 1))).bind fun x25 => 
  (bag_Compare n (x25.r, o23.1.r, ())).bind fun (y26, _) => 
  (bif decide ((y26 : Int) ≥ 0) then kr (6, ())
  else 
  (bif (decide ((o23.1.n : Int) > 1099511627776)) || (decide ((o23.1.n : Int) < (-1099511627776))) then kr (9, ())
  else rec (v18, v20, v21, IntKind.wrap .i64 (v22 + 1), ())))
  else 
  (bif (decide ((o23.1.n : Int) > 1099511627776)) || (decide ((o23.1.n : Int) < (-1099511627776))) then kr (9, ())
  else rec (v18, v20, v21, IntKind.wrap .i64 (v22 + 1), ()))))) (fun (v24, _) => kr (v24, ()))) (n) (v2, v5, v3, v4, v5, x6.r, (x6.r.length : Int), 0, ((Ev.Cnt.mk x6.r x6.n), ()), ()))
  else kx (()))

noncomputable def F_bag_Check_s2 {ρ : Type} (n : Nat) (kr : Int × Unit → Option ρ) : Int → Ev.Val → ((List Ev.Cnt) × Int × (List Ev.Cnt) × Int × Int × (Ev.Cnt × Unit) × Unit) → (((List Ev.Cnt) × Int × (List Ev.Cnt) × Int × Int × (Ev.Cnt × Unit) × Unit) → Option ρ) → Option ρ :=
  fun v14 x16 (v7, v8, v9, v10, v11, o15, _) rec =>  
  (value_Check n ((Ev.Val.mk x16.kind x16.n x16.s x16.l), ())).bind fun (y17, _) => 
  (bif (y17 : Int) != 0 then kr (y17, ())
  else rec (v7, v8, v9, v10, v11, ((Ev.Cnt.mk o15.1.r o15.1.n), ()), ()))

theorem R_bag_Check_s2 {ρ : Type} (n : Nat) (kx : (List Ev.Cnt) × Int × (List Ev.Cnt) × Int × Int × (Ev.Cnt × Unit) × Unit → Option ρ) (kr : Int × Unit → Option ρ) (l : List Ev.Val) (fuel : Nat) (v7 : List Ev.Cnt) (v8 : Int) (v9 : List Ev.Cnt) (v10 : Int) (v11 : Int) (o15 : Ev.Cnt × Unit) (hl : l.length ≤ 9223372036854775807) (hf : l.length < fuel) :
    iterN (fun rc => bag_Check_s2 n rc kx kr) fuel (v7, v8, v9, v10, v11, l, (l.length : Int), 0, o15, ()) = foldK (F_bag_Check_s2 n kr) (fun (v7, v8, v9, v10, v11, o15, _) => kx (v7, v8, v9, v10, v11, ((Ev.Cnt.mk o15.1.r o15.1.n), ()), ())) 0 l (v7, v8, v9, v10, v11, o15, ()) :=
  range_listM l (fun i (v7, v8, v9, v10, v11, o15, _) => (v7, v8, v9, v10, v11, l, (l.length : Int), i, o15, ())) _ _ _ (fun rec i s => rfl) hl fuel (v7, v8, v9, v10, v11, o15, ()) hf

/-- bag.Check -/
noncomputable def bag_Check (n : Nat) : (List Ev.Cnt) × Unit → Option (Int × Unit) :=
  fun (a1, _) => 
  (bif decide (((a1.length : Int) : Int) > 2000) then some (2, ())
  else 
  iterN (fun rc29 => bag_Check_s0 n rc29 (fun (_) => some (0, ())) (fun (v28, _) => some (v28, ()))) (n) (a1, a1, (a1.length : Int), 0, ()))

/-- a round of a loop of value.Copy -/
noncomputable def value_Copy_s0 {ρ : Type} (self_value_Copy : Ev.Val × Unit → Option (Ev.Val × Unit)) (n : Nat) (rec : (List Ev.Val) × Int × Int × (Int × Int × ByteArray × Unit) × (Ev.Val × Unit) × (List Ev.Val) × Unit → Option ρ) (kx : (Int × Int × ByteArray × Unit) × (Ev.Val × Unit) × (List Ev.Val) × Unit → Option ρ) (kr : Unit → Option ρ) : (List Ev.Val) × Int × Int × (Int × Int × ByteArray × Unit) × (Ev.Val × Unit) × (List Ev.Val) × Unit → Option ρ :=
  fun (v2, v3, v4, o5, o6, o7, _) => 
  (bif decide ((v4 : Int) < v3) then 
  (ix v2 v4).bind fun x8 => 
  (self_value_Copy ((Ev.Val.mk x8.kind x8.n x8.s x8.l), ())).bind fun (y10, _) => 
  ck (room (o7 ++ ([(Ev.Val.mk y10.kind y10.n y10.s y10.l)] : List Ev.Val)).length 56) (rec (v2, v3, IntKind.wrap .i64 (v4 + 1), (o5.1, o5.2.1, o5.2.2.1, ()), ((Ev.Val.mk o6.1.kind o6.1.n o6.1.s o6.1.l), ()), o7 ++ ([(Ev.Val.mk y10.kind y10.n y10.s y10.l)] : List Ev.Val), ()))
  else kx ((o5.1, o5.2.1, o5.2.2.1, ()), ((Ev.Val.mk o6.1.kind o6.1.n o6.1.s o6.1.l), ()), o7, ()))

noncomputable def F_value_Copy_s0 {ρ : Type} (self_value_Copy : Ev.Val × Unit → Option (Ev.Val × Unit)) (n : Nat) (kr : Unit → Option ρ) : Int → Ev.Val → ((Int × Int × ByteArray × Unit) × (Ev.Val × Unit) × (List Ev.Val) × Unit) → (((Int × Int × ByteArray × Unit) × (Ev.Val × Unit) × (List Ev.Val) × Unit) → Option ρ) → Option ρ :=
  fun v4 x8 (o5, o6, o7, _) rec =>  
  (self_value_Copy ((Ev.Val.mk x8.kind x8.n x8.s x8.l), ())).bind fun (y10, _) => 
  ck (room (o7 ++ ([(Ev.Val.mk y10.kind y10.n y10.s y10.l)] : List Ev.Val)).length 56) (rec ((o5.1, o5.2.1, o5.2.2.1, ()), ((Ev.Val.mk o6.1.kind o6.1.n o6.1.s o6.1.l), ()), o7 ++ ([(Ev.Val.mk y10.kind y10.n y10.s y10.l)] : List Ev.Val), ()))

theorem R_value_Copy_s0 {ρ : Type} (self_value_Copy : Ev.Val × Unit → Option (Ev.Val × Unit)) (n : Nat) (kx : (Int × Int × ByteArray × Unit) × (Ev.Val × Unit) × (List Ev.Val) × Unit → Option ρ) (kr : Unit → Option ρ) (l : List Ev.Val) (fuel : Nat) (o5 : Int × Int × ByteArray × Unit) (o6 : Ev.Val × Unit) (o7 : List Ev.Val) (hl : l.length ≤ 9223372036854775807) (hf : l.length < fuel) :
    iterN (fun rc => value_Copy_s0 self_value_Copy n rc kx kr) fuel (l, (l.length : Int), 0, o5, o6, o7, ()) = foldK (F_value_Copy_s0 self_value_Copy n kr) (fun (o5, o6, o7, _) => kx ((o5.1, o5.2.1, o5.2.2.1, ()), ((Ev.Val.mk o6.1.kind o6.1.n o6.1.s o6.1.l), ()), o7, ())) 0 l (o5, o6, o7, ()) :=
  range_listM l (fun i (o5, o6, o7, _) => (l, (l.length : Int), i, o5, o6, o7, ())) _ _ _ (fun rec i s => rfl) hl fuel (o5, o6, o7, ()) hf

/-- value.Copy -/
noncomputable def value_Copy_b (self_value_Copy : Ev.Val × Unit → Option (Ev.Val × Unit)) (n : Nat) : Ev.Val × Unit → Option (Ev.Val × Unit) :=
  fun (a1, _) => 
  iterN (fun rc14 => value_Copy_s0 self_value_Copy n rc14 (fun (o11, o12, o13, _) => some ((Ev.Val.mk o11.1 o11.2.1 o11.2.2.1 o13), ())) (fun (_) => none)) (n) (a1.l, (a1.l.length : Int), 0, (a1.kind, a1.n, a1.s, ()), ((Ev.Val.mk 0 0 (⟨#[]⟩ : ByteArray) ([] : List Ev.Val)), ()), ([] : List Ev.Val), ())

noncomputable def value_Copy : Nat → Ev.Val × Unit → Option (Ev.Val × Unit)
  | 0, _ => none
  | n + 1, x => value_Copy_b (value_Copy n) n x

/-- a round of a loop of bag.CopyRow -/
noncomputable def bag_CopyRow_s0 {ρ : Type} (n : Nat) (rec : (List Ev.Val) × Int × Int × (List Ev.Val) × Unit → Option ρ) (kx : (List Ev.Val) × Unit → Option ρ) (kr : Unit → Option ρ) : (List Ev.Val) × Int × Int × (List Ev.Val) × Unit → Option ρ :=
  fun (v2, v3, v4, o5, _) => 
  (bif decide ((v4 : Int) < v3) then 
  (ix v2 v4).bind fun x6 => 
  (value_Copy n ((Ev.Val.mk x6.kind x6.n x6.s x6.l), ())).bind fun (y7, _) => 
  ck (room (o5 ++ ([(Ev.Val.mk y7.kind y7.n y7.s y7.l)] : List Ev.Val)).length 56) (rec (v2, v3, IntKind.wrap .i64 (v4 + 1), o5 ++ ([(Ev.Val.mk y7.kind y7.n y7.s y7.l)] : List Ev.Val), ()))
  else kx (o5, ()))

noncomputable def F_bag_CopyRow_s0 {ρ : Type} (n : Nat) (kr : Unit → Option ρ) : Int → Ev.Val → ((List Ev.Val) × Unit) → (((List Ev.Val) × Unit) → Option ρ) → Option ρ :=
  fun v4 x6 (o5, _) rec =>  
  (value_Copy n ((Ev.Val.mk x6.kind x6.n x6.s x6.l), ())).bind fun (y7, _) => 
  ck (room (o5 ++ ([(Ev.Val.mk y7.kind y7.n y7.s y7.l)] : List Ev.Val)).length 56) (rec (o5 ++ ([(Ev.Val.mk y7.kind y7.n y7.s y7.l)] : List Ev.Val), ()))

theorem R_bag_CopyRow_s0 {ρ : Type} (n : Nat) (kx : (List Ev.Val) × Unit → Option ρ) (kr : Unit → Option ρ) (l : List Ev.Val) (fuel : Nat) (o5 : List Ev.Val) (hl : l.length ≤ 9223372036854775807) (hf : l.length < fuel) :
    iterN (fun rc => bag_CopyRow_s0 n rc kx kr) fuel (l, (l.length : Int), 0, o5, ()) = foldK (F_bag_CopyRow_s0 n kr) (fun (o5, _) => kx (o5, ())) 0 l (o5, ()) :=
  range_listM l (fun i (o5, _) => (l, (l.length : Int), i, o5, ())) _ _ _ (fun rec i s => rfl) hl fuel (o5, ()) hf

/-- bag.CopyRow -/
noncomputable def bag_CopyRow (n : Nat) : (List Ev.Val) × Unit → Option ((List Ev.Val) × Unit) :=
  fun (a1, _) => 
  iterN (fun rc9 => bag_CopyRow_s0 n rc9 (fun (o8, _) => some (o8, ())) (fun (_) => none)) (n) (a1, (a1.length : Int), 0, ([] : List Ev.Val), ())

/-- a round of a loop of bag.Distinct$1 -/
noncomputable def bag_Distinct_1_s0 {ρ : Type} (n : Nat) (rec : (List Ev.Cnt) × Int × Int × (List Ev.Cnt) × ((List Ev.Cnt) × Unit) × Unit → Option ρ) (kx : (List Ev.Cnt) × ((List Ev.Cnt) × Unit) × Unit → Option ρ) (kr : Unit → Option ρ) : (List Ev.Cnt) × Int × Int × (List Ev.Cnt) × ((List Ev.Cnt) × Unit) × Unit → Option ρ :=
  fun (v2, v3, v4, o5, o6, _) => 
  (bif decide ((v4 : Int) < v3) then 
  (ix v2 v4).bind fun x7 => 
  (bif decide ((x7.n : Int) > 0) then 
  (bag_CopyRow n (x7.r, ())).bind fun (y8, _) => 
  ck (room (o5 ++ ([(Ev.Cnt.mk y8 1)] : List Ev.Cnt)).length 32) (rec (v2, v3, IntKind.wrap .i64 (v4 + 1), o5 ++ ([(Ev.Cnt.mk y8 1)] : List Ev.Cnt), (o6.1, ()), ()))
  else rec (v2, v3, IntKind.wrap .i64 (v4 + 1), o5, (o6.1, ()), ()))
  else kx (o5, (o6.1, ()), ()))

noncomputable def F_bag_Distinct_1_s0 {ρ : Type} (n : Nat) (kr : Unit → Option ρ) : Int → Ev.Cnt → ((List Ev.Cnt) × ((List Ev.Cnt) × Unit) × Unit) → (((List Ev.Cnt) × ((List Ev.Cnt) × Unit) × Unit) → Option ρ) → Option ρ :=
  fun v4 x7 (o5, o6, _) rec =>  
  (bif decide ((x7.n : Int) > 0) then 
  (bag_CopyRow n (x7.r, ())).bind fun (y8, _) => 
  ck (room (o5 ++ ([(Ev.Cnt.mk y8 1)] : List Ev.Cnt)).length 32) (rec (o5 ++ ([(Ev.Cnt.mk y8 1)] : List Ev.Cnt), (o6.1, ()), ()))
  else rec (o5, (o6.1, ()), ()))

theorem R_bag_Distinct_1_s0 {ρ : Type} (n : Nat) (kx : (List Ev.Cnt) × ((List Ev.Cnt) × Unit) × Unit → Option ρ) (kr : Unit → Option ρ) (l : List Ev.Cnt) (fuel : Nat) (o5 : List Ev.Cnt) (o6 : (List Ev.Cnt) × Unit) (hl : l.length ≤ 9223372036854775807) (hf : l.length < fuel) :
    iterN (fun rc => bag_Distinct_1_s0 n rc kx kr) fuel (l, (l.length : Int), 0, o5, o6, ()) = foldK (F_bag_Distinct_1_s0 n kr) (fun (o5, o6, _) => kx (o5, (o6.1, ()), ())) 0 l (o5, o6, ()) :=
  range_listM l (fun i (o5, o6, _) => (l, (l.length : Int), i, o5, o6, ())) _ _ _ (fun rec i s => rfl) hl fuel (o5, o6, ()) hf

/-- bag.Distinct$1 -/
noncomputable def bag_Distinct_1 (n : Nat) : ((List Ev.Cnt) × Unit) × Unit → Option ((List Ev.Cnt) × ((List Ev.Cnt) × Unit) × Unit) :=
  fun (o1, _) => 
  iterN (fun rc11 => bag_Distinct_1_s0 n rc11 (fun (o9, o10, _) => some (o9, (o10.1, ()), ())) (fun (_) => none)) (n) (o1.1, (o1.1.length : Int), 0, ([] : List Ev.Cnt), (o1.1, ()), ())

/-- a round of a loop of bag.both -/
noncomputable def bag_both_bag_Distinct_1_c_s0 {ρ : Type} (n : Nat) (rec : ((List Ev.Cnt) × (List Ev.Cnt)) × Int × ((List Ev.Cnt) × Unit) × Unit → Option ρ) (kx : ((List Ev.Cnt) × Unit) × Unit → Option ρ) (kr : (List Ev.Cnt) × Int × ((List Ev.Cnt) × Unit) × Unit → Option ρ) : ((List Ev.Cnt) × (List Ev.Cnt)) × Int × ((List Ev.Cnt) × Unit) × Unit → Option ρ :=
  fun (v4, v5, o6, _) => 
  (bif decide ((v5 : Int) < 2) then 
  (ix ([v4.1, v4.2] : List (List Ev.Cnt)) v5).bind fun x7 => 
  (bag_Check n (x7, ())).bind fun (y8, _) => 
  (bif (y8 : Int) != 0 then kr (([] : List Ev.Cnt), y8, (o6.1, ()), ())
  else rec ((v4.1, v4.2), IntKind.wrap .i64 (v5 + 1), (o6.1, ()), ()))
  else kx ((o6.1, ()), ()))

/-- bag.both -/
noncomputable def bag_both_bag_Distinct_1_c (n : Nat) : (List Ev.Cnt) × (List Ev.Cnt) × ((List Ev.Cnt) × Unit) × Unit → Option ((List Ev.Cnt) × Int × ((List Ev.Cnt) × Unit) × Unit) :=
  fun (a1, a2, o3, _) => 
  iterN (fun rc16 => bag_both_bag_Distinct_1_c_s0 n rc16 (fun (o9, _) => 
  (bag_Distinct_1 n ((o9.1, ()), ())).bind fun (y13, o14, _) => 
  (bag_Check n (y13, ())).bind fun (y15, _) => 
  (bif (y15 : Int) != 0 then some (([] : List Ev.Cnt), y15, (o14.1, ()), ())
  else some (y13, 0, (o14.1, ()), ()))) (fun (v10, v11, o12, _) => some (v10, v11, (o12.1, ()), ()))) (n) ((a1, a2), 0, (o3.1, ()), ())

/-- bag.Distinct -/
noncomputable def bag_Distinct (n : Nat) : (List Ev.Cnt) × Unit → Option ((List Ev.Cnt) × Int × Unit) :=
  fun (a1, _) => 
  (bag_both_bag_Distinct_1_c n (a1, ([] : List Ev.Cnt), (a1, ()), ())).bind fun (y2, y3, o4, _) => some (y2, y3, ())

/-- espalierlaw.num -/
noncomputable def espalierlaw_num : Int × Unit → Option (Ev.Val × Unit) :=
  fun (a1, _) => some ((Ev.Val.mk 2 a1 (⟨#[]⟩ : ByteArray) ([] : List Ev.Val)), ())

/-- slices.Clone   api.Count,api.Count  -/
noncomputable def slices_Clone_api_Count_api_Count_own : (List Ev.Cnt) × Unit → Option ((List Ev.Cnt) × Unit) :=
  fun (a1, _) => 
  nilq a1 (some (([] : List Ev.Cnt), ())) (
  ck (room (([] : List Ev.Cnt) ++ a1).length 32) (some (([] : List Ev.Cnt) ++ a1, ())))

/-- bag.Gather$1 -/
noncomputable def bag_Gather_1 (n : Nat) : Ev.Cnt × Ev.Cnt × Unit → Option (Int × Unit) :=
  fun (a1, a2, _) => 
  (bag_Compare n (a1.r, a2.r, ())).bind fun (y3, _) => some (y3, ())

/-- a round of a loop of slices.insertionSortCmpFunc api.Count  -/
noncomputable def slices_insertionSortCmpFunc_api_Count_bag_Gather_1_s2 {ρ : Type} (n : Nat) (rec : Int × Int × Int × Int × (List Ev.Cnt) × Unit → Option ρ) (kx : Int × Int × Int × (List Ev.Cnt) × Unit → Option ρ) (kr : Unit → Option ρ) : Int × Int × Int × Int × (List Ev.Cnt) × Unit → Option ρ :=
  fun (v8, v9, v10, v11, o12, _) => 
  (bif decide ((v11 : Int) > v8) then 
  (ix o12 v11).bind fun _ => 
  ((o12)[(v11 : Int).toNat]?).bind fun e13 => 
  (ix o12 (IntKind.wrap .i64 (v11 - 1))).bind fun _ => 
  ((o12)[(IntKind.wrap .i64 (v11 - 1) : Int).toNat]?).bind fun e14 => 
  (bag_Gather_1 n ((Ev.Cnt.mk e13.r e13.n), (Ev.Cnt.mk e14.r e14.n), ())).bind fun (y15, _) => 
  (bif decide ((y15 : Int) < 0) then 
  (ix o12 (IntKind.wrap .i64 (v11 - 1))).bind fun _ => 
  ((o12)[(IntKind.wrap .i64 (v11 - 1) : Int).toNat]?).bind fun e20 => 
  (ix o12 v11).bind fun _ => 
  ((o12)[(v11 : Int).toNat]?).bind fun e21 => 
  (ix o12 v11).bind fun _ => 
  ((o12)[(v11 : Int).toNat]?).bind fun e22 => 
  (ix ((o12).set ((v11 : Int).toNat) (Ev.Cnt.mk e20.r e20.n)) (IntKind.wrap .i64 (v11 - 1))).bind fun _ => 
  (((o12).set ((v11 : Int).toNat) (Ev.Cnt.mk e20.r e20.n))[(IntKind.wrap .i64 (v11 - 1) : Int).toNat]?).bind fun e23 => rec (v8, v9, v10, IntKind.wrap .i64 (v11 - 1), ((o12).set ((v11 : Int).toNat) (Ev.Cnt.mk e20.r e20.n)).set ((IntKind.wrap .i64 (v11 - 1) : Int).toNat) (Ev.Cnt.mk e21.r e21.n), ())
  else kx (v8, v9, v10, o12, ()))
  else kx (v8, v9, v10, o12, ()))

/-- a round of a loop of slices.insertionSortCmpFunc api.Count  -/
noncomputable def slices_insertionSortCmpFunc_api_Count_bag_Gather_1_s0 {ρ : Type} (n : Nat) (rec : Int × Int × Int × (List Ev.Cnt) × Unit → Option ρ) (kx : (List Ev.Cnt) × Unit → Option ρ) (kr : Unit → Option ρ) : Int × Int × Int × (List Ev.Cnt) × Unit → Option ρ :=
  fun (v4, v5, v6, o7, _) => 
  (bif decide ((v6 : Int) < v5) then 
  iterN (fun rc28 => slices_insertionSortCmpFunc_api_Count_bag_Gather_1_s2 n rc28 (fun (v24, v25, v26, o27, _) => rec (v24, v25, IntKind.wrap .i64 (v26 + 1), o27, ())) (fun (_) => none)) (n) (v4, v5, v6, v6, o7, ())
  else kx (o7, ()))

/-- slices.insertionSortCmpFunc api.Count  -/
noncomputable def slices_insertionSortCmpFunc_api_Count_bag_Gather_1 (n : Nat) : Int × Int × (List Ev.Cnt) × Unit → Option ((List Ev.Cnt) × Unit) :=
  fun (a1, a2, o3, _) => 
  iterN (fun rc30 => slices_insertionSortCmpFunc_api_Count_bag_Gather_1_s0 n rc30 (fun (o29, _) => some (o29, ())) (fun (_) => none)) (n) (a1, a2, IntKind.wrap .i64 (a1 + 1), o3, ())

/-- a round of a loop of slices.swapRangeCmpFunc api.Count  -/
noncomputable def slices_swapRangeCmpFunc_api_Count_bag_Gather_1_s0 {ρ : Type} (n : Nat) (rec : Int × Int × Int × Int × (List Ev.Cnt) × Unit → Option ρ) (kx : (List Ev.Cnt) × Unit → Option ρ) (kr : Unit → Option ρ) : Int × Int × Int × Int × (List Ev.Cnt) × Unit → Option ρ :=
  fun (v5, v6, v7, v8, o9, _) => 
  (bif decide ((v8 : Int) < v7) then 
  (ix o9 (IntKind.wrap .i64 (v6 + v8))).bind fun _ => 
  ((o9)[(IntKind.wrap .i64 (v6 + v8) : Int).toNat]?).bind fun e14 => 
  (ix o9 (IntKind.wrap .i64 (v5 + v8))).bind fun _ => 
  ((o9)[(IntKind.wrap .i64 (v5 + v8) : Int).toNat]?).bind fun e15 => 
  (ix o9 (IntKind.wrap .i64 (v5 + v8))).bind fun _ => 
  ((o9)[(IntKind.wrap .i64 (v5 + v8) : Int).toNat]?).bind fun e16 => 
  (ix ((o9).set ((IntKind.wrap .i64 (v5 + v8) : Int).toNat) (Ev.Cnt.mk e14.r e14.n)) (IntKind.wrap .i64 (v6 + v8))).bind fun _ => 
  (((o9).set ((IntKind.wrap .i64 (v5 + v8) : Int).toNat) (Ev.Cnt.mk e14.r e14.n))[(IntKind.wrap .i64 (v6 + v8) : Int).toNat]?).bind fun e17 => rec (v5, v6, v7, IntKind.wrap .i64 (v8 + 1), ((o9).set ((IntKind.wrap .i64 (v5 + v8) : Int).toNat) (Ev.Cnt.mk e14.r e14.n)).set ((IntKind.wrap .i64 (v6 + v8) : Int).toNat) (Ev.Cnt.mk e15.r e15.n), ())
  else kx (o9, ()))

/-- slices.swapRangeCmpFunc api.Count  -/
noncomputable def slices_swapRangeCmpFunc_api_Count_bag_Gather_1 (n : Nat) : Int × Int × Int × (List Ev.Cnt) × Unit → Option ((List Ev.Cnt) × Unit) :=
  fun (a1, a2, a3, o4, _) => 
  iterN (fun rc19 => slices_swapRangeCmpFunc_api_Count_bag_Gather_1_s0 n rc19 (fun (o18, _) => some (o18, ())) (fun (_) => none)) (n) (a1, a2, a3, 0, o4, ())

/-- a round of a loop of slices.rotateCmpFunc api.Count  -/
noncomputable def slices_rotateCmpFunc_api_Count_bag_Gather_1_s0 {ρ : Type} (n : Nat) (rec : Int × Int × Int × (List Ev.Cnt) × Unit → Option ρ) (kx : Int × Int × (List Ev.Cnt) × Unit → Option ρ) (kr : Unit → Option ρ) : Int × Int × Int × (List Ev.Cnt) × Unit → Option ρ :=
  fun (v5, v6, v7, o8, _) => 
  (bif (v6 : Int) != v7 then 
  (bif decide ((v6 : Int) > v7) then 
  (slices_swapRangeCmpFunc_api_Count_bag_Gather_1 n (IntKind.wrap .i64 (v5 - v6), v5, v7, o8, ())).bind fun (o9, _) => rec (v5, IntKind.wrap .i64 (v6 - v7), v7, o9, ())
  else 
  (slices_swapRangeCmpFunc_api_Count_bag_Gather_1 n (IntKind.wrap .i64 (v5 - v6), IntKind.wrap .i64 ((IntKind.wrap .i64 (v5 + v7)) - v6), v6, o8, ())).bind fun (o10, _) => rec (v5, v6, IntKind.wrap .i64 (v7 - v6), o10, ()))
  else kx (v5, v6, o8, ()))

/-- slices.rotateCmpFunc api.Count  -/
noncomputable def slices_rotateCmpFunc_api_Count_bag_Gather_1 (n : Nat) : Int × Int × Int × (List Ev.Cnt) × Unit → Option ((List Ev.Cnt) × Unit) :=
  fun (a1, a2, a3, o4, _) => 
  iterN (fun rc15 => slices_rotateCmpFunc_api_Count_bag_Gather_1_s0 n rc15 (fun (v11, v12, o13, _) => 
  (slices_swapRangeCmpFunc_api_Count_bag_Gather_1 n (IntKind.wrap .i64 (v11 - v12), v11, v12, o13, ())).bind fun (o14, _) => some (o14, ())) (fun (_) => none)) (n) (a2, IntKind.wrap .i64 (a2 - a1), IntKind.wrap .i64 (a3 - a2), o4, ())

/-- a round of a loop of slices.symMergeCmpFunc api.Count  -/
noncomputable def slices_symMergeCmpFunc_api_Count_bag_Gather_1_s0 {ρ : Type} (self_slices_symMergeCmpFunc_api_Count_bag_Gather_1 : Int × Int × Int × (List Ev.Cnt) × Unit → Option ((List Ev.Cnt) × Unit)) (n : Nat) (rec : Int × Int × Int × (List Ev.Cnt) × Unit → Option ρ) (kx : Int × Int × (List Ev.Cnt) × Unit → Option ρ) (kr : Unit → Option ρ) : Int × Int × Int × (List Ev.Cnt) × Unit → Option ρ :=
  fun (v5, v6, v7, o8, _) => 
  (bif decide ((v6 : Int) < v7) then 
  (ix o8 (IntKind.wrap .i64 (bshr .u64 (IntKind.wrap .u64 (IntKind.wrap .i64 (v6 + v7))) 1))).bind fun _ => 
  ((o8)[(IntKind.wrap .i64 (bshr .u64 (IntKind.wrap .u64 (IntKind.wrap .i64 (v6 + v7))) 1) : Int).toNat]?).bind fun e11 => 
  (ix o8 v5).bind fun _ => 
  ((o8)[(v5 : Int).toNat]?).bind fun e12 => 
  (bag_Gather_1 n ((Ev.Cnt.mk e11.r e11.n), (Ev.Cnt.mk e12.r e12.n), ())).bind fun (y13, _) => 
  (bif decide ((y13 : Int) < 0) then rec (v5, IntKind.wrap .i64 ((IntKind.wrap .i64 (bshr .u64 (IntKind.wrap .u64 (IntKind.wrap .i64 (v6 + v7))) 1)) + 1), v7, o8, ())
  else rec (v5, v6, IntKind.wrap .i64 (bshr .u64 (IntKind.wrap .u64 (IntKind.wrap .i64 (v6 + v7))) 1), o8, ()))
  else kx (v5, v6, o8, ()))

/-- a round of a loop of slices.symMergeCmpFunc api.Count  -/
noncomputable def slices_symMergeCmpFunc_api_Count_bag_Gather_1_s2 {ρ : Type} (self_slices_symMergeCmpFunc_api_Count_bag_Gather_1 : Int × Int × Int × (List Ev.Cnt) × Unit → Option ((List Ev.Cnt) × Unit)) (n : Nat) (rec : Int × Int × (List Ev.Cnt) × Unit → Option ρ) (kx : (List Ev.Cnt) × Unit → Option ρ) (kr : Unit → Option ρ) : Int × Int × (List Ev.Cnt) × Unit → Option ρ :=
  fun (v17, v18, o19, _) => 
  (bif decide ((v18 : Int) < (IntKind.wrap .i64 (v17 - 1))) then 
  (ix o19 (IntKind.wrap .i64 (v18 + 1))).bind fun _ => 
  ((o19)[(IntKind.wrap .i64 (v18 + 1) : Int).toNat]?).bind fun e24 => 
  (ix o19 v18).bind fun _ => 
  ((o19)[(v18 : Int).toNat]?).bind fun e25 => 
  (ix o19 v18).bind fun _ => 
  ((o19)[(v18 : Int).toNat]?).bind fun e26 => 
  (ix ((o19).set ((v18 : Int).toNat) (Ev.Cnt.mk e24.r e24.n)) (IntKind.wrap .i64 (v18 + 1))).bind fun _ => 
  (((o19).set ((v18 : Int).toNat) (Ev.Cnt.mk e24.r e24.n))[(IntKind.wrap .i64 (v18 + 1) : Int).toNat]?).bind fun e27 => rec (v17, IntKind.wrap .i64 (v18 + 1), ((o19).set ((v18 : Int).toNat) (Ev.Cnt.mk e24.r e24.n)).set ((IntKind.wrap .i64 (v18 + 1) : Int).toNat) (Ev.Cnt.mk e25.r e25.n), ())
  else kx (o19, ()))

/-- a round of a loop of slices.symMergeCmpFunc api.Count  -/
noncomputable def slices_symMergeCmpFunc_api_Count_bag_Gather_1_s4 {ρ : Type} (self_slices_symMergeCmpFunc_api_Count_bag_Gather_1 : Int × Int × Int × (List Ev.Cnt) × Unit → Option ((List Ev.Cnt) × Unit)) (n : Nat) (rec : Int × Int × Int × (List Ev.Cnt) × Unit → Option ρ) (kx : Int × Int × (List Ev.Cnt) × Unit → Option ρ) (kr : Unit → Option ρ) : Int × Int × Int × (List Ev.Cnt) × Unit → Option ρ :=
  fun (v31, v32, v33, o34, _) => 
  (bif decide ((v32 : Int) < v33) then 
  (ix o34 v31).bind fun _ => 
  ((o34)[(v31 : Int).toNat]?).bind fun e37 => 
  (ix o34 (IntKind.wrap .i64 (bshr .u64 (IntKind.wrap .u64 (IntKind.wrap .i64 (v32 + v33))) 1))).bind fun _ => 
  ((o34)[(IntKind.wrap .i64 (bshr .u64 (IntKind.wrap .u64 (IntKind.wrap .i64 (v32 + v33))) 1) : Int).toNat]?).bind fun e38 => 
  (bag_Gather_1 n ((Ev.Cnt.mk e37.r e37.n), (Ev.Cnt.mk e38.r e38.n), ())).bind fun (y39, _) => 
  (bif !(decide ((y39 : Int) < 0)) then rec (v31, IntKind.wrap .i64 ((IntKind.wrap .i64 (bshr .u64 (IntKind.wrap .u64 (IntKind.wrap .i64 (v32 + v33))) 1)) + 1), v33, o34, ())
  else rec (v31, v32, IntKind.wrap .i64 (bshr .u64 (IntKind.wrap .u64 (IntKind.wrap .i64 (v32 + v33))) 1), o34, ()))
  else kx (v31, v32, o34, ()))

/-- a round of a loop of slices.symMergeCmpFunc api.Count  -/
noncomputable def slices_symMergeCmpFunc_api_Count_bag_Gather_1_s6 {ρ : Type} (self_slices_symMergeCmpFunc_api_Count_bag_Gather_1 : Int × Int × Int × (List Ev.Cnt) × Unit → Option ((List Ev.Cnt) × Unit)) (n : Nat) (rec : Int × Int × (List Ev.Cnt) × Unit → Option ρ) (kx : (List Ev.Cnt) × Unit → Option ρ) (kr : Unit → Option ρ) : Int × Int × (List Ev.Cnt) × Unit → Option ρ :=
  fun (v43, v44, o45, _) => 
  (bif decide ((v44 : Int) > v43) then 
  (ix o45 (IntKind.wrap .i64 (v44 - 1))).bind fun _ => 
  ((o45)[(IntKind.wrap .i64 (v44 - 1) : Int).toNat]?).bind fun e50 => 
  (ix o45 v44).bind fun _ => 
  ((o45)[(v44 : Int).toNat]?).bind fun e51 => 
  (ix o45 v44).bind fun _ => 
  ((o45)[(v44 : Int).toNat]?).bind fun e52 => 
  (ix ((o45).set ((v44 : Int).toNat) (Ev.Cnt.mk e50.r e50.n)) (IntKind.wrap .i64 (v44 - 1))).bind fun _ => 
  (((o45).set ((v44 : Int).toNat) (Ev.Cnt.mk e50.r e50.n))[(IntKind.wrap .i64 (v44 - 1) : Int).toNat]?).bind fun e53 => rec (v43, IntKind.wrap .i64 (v44 - 1), ((o45).set ((v44 : Int).toNat) (Ev.Cnt.mk e50.r e50.n)).set ((IntKind.wrap .i64 (v44 - 1) : Int).toNat) (Ev.Cnt.mk e51.r e51.n), ())
  else kx (o45, ()))

/-- a round of a loop of slices.symMergeCmpFunc api.Count  -/
noncomputable def slices_symMergeCmpFunc_api_Count_bag_Gather_1_s8 {ρ : Type} (self_slices_symMergeCmpFunc_api_Count_bag_Gather_1 : Int × Int × Int × (List Ev.Cnt) × Unit → Option ((List Ev.Cnt) × Unit)) (n : Nat) (rec : Int × Int × Int × Int × Int × Int × Int × Int × (List Ev.Cnt) × Unit → Option ρ) (kx : Int × Int × Int × Int × Int × Int × (List Ev.Cnt) × Unit → Option ρ) (kr : Unit → Option ρ) : Int × Int × Int × Int × Int × Int × Int × Int × (List Ev.Cnt) × Unit → Option ρ :=
  fun (v57, v58, v59, v60, v61, v62, v63, v64, o65, _) => 
  (bif decide ((v62 : Int) < v63) then 
  (ix o65 (IntKind.wrap .i64 (v64 - (IntKind.wrap .i64 (bshr .u64 (IntKind.wrap .u64 (IntKind.wrap .i64 (v62 + v63))) 1))))).bind fun _ => 
  ((o65)[(IntKind.wrap .i64 (v64 - (IntKind.wrap .i64 (bshr .u64 (IntKind.wrap .u64 (IntKind.wrap .i64 (v62 + v63))) 1))) : Int).toNat]?).bind fun e68 => 
  (ix o65 (IntKind.wrap .i64 (bshr .u64 (IntKind.wrap .u64 (IntKind.wrap .i64 (v62 + v63))) 1))).bind fun _ => 
  ((o65)[(IntKind.wrap .i64 (bshr .u64 (IntKind.wrap .u64 (IntKind.wrap .i64 (v62 + v63))) 1) : Int).toNat]?).bind fun e69 => 
  (bag_Gather_1 n ((Ev.Cnt.mk e68.r e68.n), (Ev.Cnt.mk e69.r e69.n), ())).bind fun (y70, _) => 
  (bif !(decide ((y70 : Int) < 0)) then rec (v57, v58, v59, v60, v61, IntKind.wrap .i64 ((IntKind.wrap .i64 (bshr .u64 (IntKind.wrap .u64 (IntKind.wrap .i64 (v62 + v63))) 1)) + 1), v63, v64, o65, ())
  else rec (v57, v58, v59, v60, v61, v62, IntKind.wrap .i64 (bshr .u64 (IntKind.wrap .u64 (IntKind.wrap .i64 (v62 + v63))) 1), v64, o65, ()))
  else kx (v57, v58, v59, v60, v61, v62, o65, ()))

/-- slices.symMergeCmpFunc api.Count  -/
noncomputable def slices_symMergeCmpFunc_api_Count_bag_Gather_1_b (self_slices_symMergeCmpFunc_api_Count_bag_Gather_1 : Int × Int × Int × (List Ev.Cnt) × Unit → Option ((List Ev.Cnt) × Unit)) (n : Nat) : Int × Int × Int × (List Ev.Cnt) × Unit → Option ((List Ev.Cnt) × Unit) :=
  fun (a1, a2, a3, o4, _) => 
  (bif (IntKind.wrap .i64 (a2 - a1) : Int) == 1 then 
  iterN (fun rc30 => slices_symMergeCmpFunc_api_Count_bag_Gather_1_s0 self_slices_symMergeCmpFunc_api_Count_bag_Gather_1 n rc30 (fun (v14, v15, o16, _) => 
  iterN (fun rc29 => slices_symMergeCmpFunc_api_Count_bag_Gather_1_s2 self_slices_symMergeCmpFunc_api_Count_bag_Gather_1 n rc29 (fun (o28, _) => some (o28, ())) (fun (_) => none)) (n) (v15, v14, o16, ())) (fun (_) => none)) (n) (a1, a2, a3, o4, ())
  else 
  (bif (IntKind.wrap .i64 (a3 - a2) : Int) == 1 then 
  iterN (fun rc56 => slices_symMergeCmpFunc_api_Count_bag_Gather_1_s4 self_slices_symMergeCmpFunc_api_Count_bag_Gather_1 n rc56 (fun (v40, v41, o42, _) => 
  iterN (fun rc55 => slices_symMergeCmpFunc_api_Count_bag_Gather_1_s6 self_slices_symMergeCmpFunc_api_Count_bag_Gather_1 n rc55 (fun (o54, _) => some (o54, ())) (fun (_) => none)) (n) (v41, v40, o42, ())) (fun (_) => none)) (n) (a2, a1, a2, o4, ())
  else 
  (bif decide ((a2 : Int) > (IntKind.wrap .i64 (bshr .u64 (IntKind.wrap .u64 (IntKind.wrap .i64 (a1 + a3))) 1))) then 
  iterN (fun rc85 => slices_symMergeCmpFunc_api_Count_bag_Gather_1_s8 self_slices_symMergeCmpFunc_api_Count_bag_Gather_1 n rc85 (fun (v71, v72, v73, v74, v75, v76, o77, _) => 
  (bif (decide ((v76 : Int) < v72)) && (decide ((v72 : Int) < (IntKind.wrap .i64 (v75 - v76)))) then 
  (slices_rotateCmpFunc_api_Count_bag_Gather_1 n (v76, v72, IntKind.wrap .i64 (v75 - v76), o77, ())).bind fun (o78, _) => 
  (bif (decide ((v71 : Int) < v76)) && (decide ((v76 : Int) < v74)) then 
  (self_slices_symMergeCmpFunc_api_Count_bag_Gather_1 (v71, v76, v74, o78, ())).bind fun (o79, _) => 
  (bif (decide ((v74 : Int) < (IntKind.wrap .i64 (v75 - v76)))) && (decide ((IntKind.wrap .i64 (v75 - v76) : Int) < v73)) then 
  (self_slices_symMergeCmpFunc_api_Count_bag_Gather_1 (v74, IntKind.wrap .i64 (v75 - v76), v73, o79, ())).bind fun (o80, _) => some (o80, ())
  else some (o79, ()))
  else 
  (bif (decide ((v74 : Int) < (IntKind.wrap .i64 (v75 - v76)))) && (decide ((IntKind.wrap .i64 (v75 - v76) : Int) < v73)) then 
  (self_slices_symMergeCmpFunc_api_Count_bag_Gather_1 (v74, IntKind.wrap .i64 (v75 - v76), v73, o78, ())).bind fun (o81, _) => some (o81, ())
  else some (o78, ())))
  else 
  (bif (decide ((v71 : Int) < v76)) && (decide ((v76 : Int) < v74)) then 
  (self_slices_symMergeCmpFunc_api_Count_bag_Gather_1 (v71, v76, v74, o77, ())).bind fun (o82, _) => 
  (bif (decide ((v74 : Int) < (IntKind.wrap .i64 (v75 - v76)))) && (decide ((IntKind.wrap .i64 (v75 - v76) : Int) < v73)) then 
  (self_slices_symMergeCmpFunc_api_Count_bag_Gather_1 (v74, IntKind.wrap .i64 (v75 - v76), v73, o82, ())).bind fun (o83, _) => some (o83, ())
  else some (o82, ()))
  else 
  (bif (decide ((v74 : Int) < (IntKind.wrap .i64 (v75 - v76)))) && (decide ((IntKind.wrap .i64 (v75 - v76) : Int) < v73)) then 
  (self_slices_symMergeCmpFunc_api_Count_bag_Gather_1 (v74, IntKind.wrap .i64 (v75 - v76), v73, o77, ())).bind fun (o84, _) => some (o84, ())
  else some (o77, ()))))) (fun (_) => none)) (n) (a1, a2, a3, IntKind.wrap .i64 (bshr .u64 (IntKind.wrap .u64 (IntKind.wrap .i64 (a1 + a3))) 1), IntKind.wrap .i64 ((IntKind.wrap .i64 (bshr .u64 (IntKind.wrap .u64 (IntKind.wrap .i64 (a1 + a3))) 1)) + a2), IntKind.wrap .i64 ((IntKind.wrap .i64 ((IntKind.wrap .i64 (bshr .u64 (IntKind.wrap .u64 (IntKind.wrap .i64 (a1 + a3))) 1)) + a2)) - a3), IntKind.wrap .i64 (bshr .u64 (IntKind.wrap .u64 (IntKind.wrap .i64 (a1 + a3))) 1), IntKind.wrap .i64 ((IntKind.wrap .i64 ((IntKind.wrap .i64 (bshr .u64 (IntKind.wrap .u64 (IntKind.wrap .i64 (a1 + a3))) 1)) + a2)) - 1), o4, ())
  else 
  iterN (fun rc100 => slices_symMergeCmpFunc_api_Count_bag_Gather_1_s8 self_slices_symMergeCmpFunc_api_Count_bag_Gather_1 n rc100 (fun (v86, v87, v88, v89, v90, v91, o92, _) => 
  (bif (decide ((v91 : Int) < v87)) && (decide ((v87 : Int) < (IntKind.wrap .i64 (v90 - v91)))) then 
  (slices_rotateCmpFunc_api_Count_bag_Gather_1 n (v91, v87, IntKind.wrap .i64 (v90 - v91), o92, ())).bind fun (o93, _) => 
  (bif (decide ((v86 : Int) < v91)) && (decide ((v91 : Int) < v89)) then 
  (self_slices_symMergeCmpFunc_api_Count_bag_Gather_1 (v86, v91, v89, o93, ())).bind fun (o94, _) => 
  (bif (decide ((v89 : Int) < (IntKind.wrap .i64 (v90 - v91)))) && (decide ((IntKind.wrap .i64 (v90 - v91) : Int) < v88)) then 
  (self_slices_symMergeCmpFunc_api_Count_bag_Gather_1 (v89, IntKind.wrap .i64 (v90 - v91), v88, o94, ())).bind fun (o95, _) => some (o95, ())
  else some (o94, ()))
  else 
  (bif (decide ((v89 : Int) < (IntKind.wrap .i64 (v90 - v91)))) && (decide ((IntKind.wrap .i64 (v90 - v91) : Int) < v88)) then 
  (self_slices_symMergeCmpFunc_api_Count_bag_Gather_1 (v89, IntKind.wrap .i64 (v90 - v91), v88, o93, ())).bind fun (o96, _) => some (o96, ())
  else some (o93, ())))
  else 
  (bif (decide ((v86 : Int) < v91)) && (decide ((v91 : Int) < v89)) then 
  (self_slices_symMergeCmpFunc_api_Count_bag_Gather_1 (v86, v91, v89, o92, ())).bind fun (o97, _) => 
  (bif (decide ((v89 : Int) < (IntKind.wrap .i64 (v90 - v91)))) && (decide ((IntKind.wrap .i64 (v90 - v91) : Int) < v88)) then 
  (self_slices_symMergeCmpFunc_api_Count_bag_Gather_1 (v89, IntKind.wrap .i64 (v90 - v91), v88, o97, ())).bind fun (o98, _) => some (o98, ())
  else some (o97, ()))
  else 
  (bif (decide ((v89 : Int) < (IntKind.wrap .i64 (v90 - v91)))) && (decide ((IntKind.wrap .i64 (v90 - v91) : Int) < v88)) then 
  (self_slices_symMergeCmpFunc_api_Count_bag_Gather_1 (v89, IntKind.wrap .i64 (v90 - v91), v88, o92, ())).bind fun (o99, _) => some (o99, ())
  else some (o92, ()))))) (fun (_) => none)) (n) (a1, a2, a3, IntKind.wrap .i64 (bshr .u64 (IntKind.wrap .u64 (IntKind.wrap .i64 (a1 + a3))) 1), IntKind.wrap .i64 ((IntKind.wrap .i64 (bshr .u64 (IntKind.wrap .u64 (IntKind.wrap .i64 (a1 + a3))) 1)) + a2), a1, a2, IntKind.wrap .i64 ((IntKind.wrap .i64 ((IntKind.wrap .i64 (bshr .u64 (IntKind.wrap .u64 (IntKind.wrap .i64 (a1 + a3))) 1)) + a2)) - 1), o4, ()))))

noncomputable def slices_symMergeCmpFunc_api_Count_bag_Gather_1 : Nat → Int × Int × Int × (List Ev.Cnt) × Unit → Option ((List Ev.Cnt) × Unit)
  | 0, _ => none
  | n + 1, x => slices_symMergeCmpFunc_api_Count_bag_Gather_1_b (slices_symMergeCmpFunc_api_Count_bag_Gather_1 n) n x

/-- a round of a loop of slices.stableCmpFunc api.Count  -/
noncomputable def slices_stableCmpFunc_api_Count_bag_Gather_1_s0 {ρ : Type} (n : Nat) (rec : Int × Int × Int × Int × (List Ev.Cnt) × Unit → Option ρ) (kx : Int × Int × Int × (List Ev.Cnt) × Unit → Option ρ) (kr : Unit → Option ρ) : Int × Int × Int × Int × (List Ev.Cnt) × Unit → Option ρ :=
  fun (v3, v4, v5, v6, o7, _) => 
  (bif decide ((v6 : Int) ≤ v3) then 
  (slices_insertionSortCmpFunc_api_Count_bag_Gather_1 n (v5, v6, o7, ())).bind fun (o8, _) => rec (v3, v4, v6, IntKind.wrap .i64 (v6 + v4), o8, ())
  else kx (v3, v4, v5, o7, ()))

/-- a round of a loop of slices.stableCmpFunc api.Count  -/
noncomputable def slices_stableCmpFunc_api_Count_bag_Gather_1_s4 {ρ : Type} (n : Nat) (rec : Int × Int × Int × Int × (List Ev.Cnt) × Unit → Option ρ) (kx : Int × Int × Int × (List Ev.Cnt) × Unit → Option ρ) (kr : Unit → Option ρ) : Int × Int × Int × Int × (List Ev.Cnt) × Unit → Option ρ :=
  fun (v17, v18, v19, v20, o21, _) => 
  (bif decide ((v20 : Int) ≤ v17) then 
  (slices_symMergeCmpFunc_api_Count_bag_Gather_1 n (v19, IntKind.wrap .i64 (v19 + v18), v20, o21, ())).bind fun (o22, _) => rec (v17, v18, v20, IntKind.wrap .i64 (v20 + (IntKind.wrap .i64 (2 * v18))), o22, ())
  else kx (v17, v18, v19, o21, ()))

/-- a round of a loop of slices.stableCmpFunc api.Count  -/
noncomputable def slices_stableCmpFunc_api_Count_bag_Gather_1_s2 {ρ : Type} (n : Nat) (rec : Int × Int × (List Ev.Cnt) × Unit → Option ρ) (kx : (List Ev.Cnt) × Unit → Option ρ) (kr : Unit → Option ρ) : Int × Int × (List Ev.Cnt) × Unit → Option ρ :=
  fun (v14, v15, o16, _) => 
  (bif decide ((v15 : Int) < v14) then 
  iterN (fun rc28 => slices_stableCmpFunc_api_Count_bag_Gather_1_s4 n rc28 (fun (v23, v24, v25, o26, _) => 
  (bif decide ((IntKind.wrap .i64 (v25 + v24) : Int) < v23) then 
  (slices_symMergeCmpFunc_api_Count_bag_Gather_1 n (v25, IntKind.wrap .i64 (v25 + v24), v23, o26, ())).bind fun (o27, _) => rec (v23, IntKind.wrap .i64 (v24 * 2), o27, ())
  else rec (v23, IntKind.wrap .i64 (v24 * 2), o26, ()))) (fun (_) => none)) (n) (v14, v15, 0, IntKind.wrap .i64 (2 * v15), o16, ())
  else kx (o16, ()))

/-- slices.stableCmpFunc api.Count  -/
noncomputable def slices_stableCmpFunc_api_Count_bag_Gather_1 (n : Nat) : Int × (List Ev.Cnt) × Unit → Option ((List Ev.Cnt) × Unit) :=
  fun (a1, o2, _) => 
  iterN (fun rc31 => slices_stableCmpFunc_api_Count_bag_Gather_1_s0 n rc31 (fun (v9, v10, v11, o12, _) => 
  (slices_insertionSortCmpFunc_api_Count_bag_Gather_1 n (v11, v9, o12, ())).bind fun (o13, _) => 
  iterN (fun rc30 => slices_stableCmpFunc_api_Count_bag_Gather_1_s2 n rc30 (fun (o29, _) => some (o29, ())) (fun (_) => none)) (n) (v9, v10, o13, ())) (fun (_) => none)) (n) (a1, 20, 0, 20, o2, ())

/-- slices.SortStableFunc   api.Count,api.Count  -/
noncomputable def slices_SortStableFunc_api_Count_api_Count_bag_Gather_1 (n : Nat) : (List Ev.Cnt) × Unit → Option ((List Ev.Cnt) × Unit) :=
  fun (o1, _) => 
  (slices_stableCmpFunc_api_Count_bag_Gather_1 n ((o1.length : Int), o1, ())).bind fun (o2, _) => some (o2, ())

/-- bag.Gather$2 -/
noncomputable def bag_Gather_2 : Ev.Cnt × Unit → Option (Bool × Unit) :=
  fun (a1, _) => some ((a1.n : Int) == 0, ())

/-- a round of a loop of slices.IndexFunc api.Bag,api.Count  -/
noncomputable def slices_IndexFunc_api_Bag_api_Count_bag_Gather_2_s0 {ρ : Type} (n : Nat) (rec : (List Ev.Cnt) × Int × Int × Unit → Option ρ) (kx : Unit → Option ρ) (kr : Int × Unit → Option ρ) : (List Ev.Cnt) × Int × Int × Unit → Option ρ :=
  fun (v2, v3, v4, _) => 
  (bif decide ((v4 : Int) < v3) then 
  (ix v2 v4).bind fun x5 => 
  (bag_Gather_2 ((Ev.Cnt.mk x5.r x5.n), ())).bind fun (y6, _) => 
  (bif y6 then kr (v4, ())
  else rec (v2, v3, IntKind.wrap .i64 (v4 + 1), ()))
  else kx (()))

noncomputable def F_slices_IndexFunc_api_Bag_api_Count_bag_Gather_2_s0 {ρ : Type} (n : Nat) (kr : Int × Unit → Option ρ) : Int → Ev.Cnt → Unit → (Unit → Option ρ) → Option ρ :=
  fun v4 x5 (_) rec =>  
  (bag_Gather_2 ((Ev.Cnt.mk x5.r x5.n), ())).bind fun (y6, _) => 
  (bif y6 then kr (v4, ())
  else rec (()))

theorem R_slices_IndexFunc_api_Bag_api_Count_bag_Gather_2_s0 {ρ : Type} (n : Nat) (kx : Unit → Option ρ) (kr : Int × Unit → Option ρ) (l : List Ev.Cnt) (fuel : Nat) (hl : l.length ≤ 9223372036854775807) (hf : l.length < fuel) :
    iterN (fun rc => slices_IndexFunc_api_Bag_api_Count_bag_Gather_2_s0 n rc kx kr) fuel (l, (l.length : Int), 0, ()) = foldK (F_slices_IndexFunc_api_Bag_api_Count_bag_Gather_2_s0 n kr) (fun (_) => kx (())) 0 l (()) :=
  range_listM l (fun i (_) => (l, (l.length : Int), i, ())) _ _ _ (fun rec i s => rfl) hl fuel (()) hf

/-- slices.IndexFunc api.Bag,api.Count  -/
noncomputable def slices_IndexFunc_api_Bag_api_Count_bag_Gather_2 (n : Nat) : (List Ev.Cnt) × Unit → Option (Int × Unit) :=
  fun (a1, _) => 
  iterN (fun rc8 => slices_IndexFunc_api_Bag_api_Count_bag_Gather_2_s0 n rc8 (fun (_) => some ((-1), ())) (fun (v7, _) => some (v7, ()))) (n) (a1, (a1.length : Int), 0, ())

/-- a round of a loop of slices.DeleteFunc api.Bag,api.Count  -/
noncomputable def slices_DeleteFunc_api_Bag_api_Count_bag_Gather_2_s0 {ρ : Type} (n : Nat) (rec : Int × Int × (List Ev.Cnt) × Unit → Option ρ) (kx : Int × (List Ev.Cnt) × Unit → Option ρ) (kr : Unit → Option ρ) : Int × Int × (List Ev.Cnt) × Unit → Option ρ :=
  fun (v3, v4, o5, _) => 
  (bif decide ((v4 : Int) < (o5.length : Int)) then 
  (ix o5 v4).bind fun _ => 
  ((o5)[(v4 : Int).toNat]?).bind fun e6 => 
  (bag_Gather_2 ((Ev.Cnt.mk e6.r e6.n), ())).bind fun (y7, _) => 
  (bif !y7 then 
  (ix o5 v3).bind fun _ => 
  ((o5)[(v3 : Int).toNat]?).bind fun e8 => rec (IntKind.wrap .i64 (v3 + 1), IntKind.wrap .i64 (v4 + 1), (o5).set ((v3 : Int).toNat) (Ev.Cnt.mk e6.r e6.n), ())
  else rec (v3, IntKind.wrap .i64 (v4 + 1), o5, ()))
  else kx (v3, o5, ()))

/-- slices.DeleteFunc api.Bag,api.Count  -/
noncomputable def slices_DeleteFunc_api_Bag_api_Count_bag_Gather_2 (n : Nat) : (List Ev.Cnt) × Unit → Option ((List Ev.Cnt) × Unit) :=
  fun (o1, _) => 
  (slices_IndexFunc_api_Bag_api_Count_bag_Gather_2 n (o1, ())).bind fun (y2, _) => 
  (bif (y2 : Int) == (-1) then some (o1, ())
  else 
  iterN (fun rc12 => slices_DeleteFunc_api_Bag_api_Count_bag_Gather_2_s0 n rc12 (fun (v9, o10, _) => 
  ck (decide (0 ≤ (v9 : Int) ∧ (v9 : Int) ≤ ((o10).length : Int))) (
  ck (Nat.ble ((v9 : Int).toNat + ((o10).length - (v9 : Int).toNat)) (o10).length) (
  (cut? (clrL o10 ((v9 : Int).toNat) ((o10).length - (v9 : Int).toNat) (Ev.Cnt.mk ([] : List Ev.Val) 0)) v9).bind fun r11 => some (r11, ())))) (fun (_) => none)) (n) (y2, IntKind.wrap .i64 (y2 + 1), o1, ()))

/-- a round of a loop of bag.Gather -/
noncomputable def bag_Gather_s0 {ρ : Type} (n : Nat) (rec : (List Ev.Cnt) × Int × Int × (List Ev.Cnt) × Unit → Option ρ) (kx : (List Ev.Cnt) × Unit → Option ρ) (kr : Unit → Option ρ) : (List Ev.Cnt) × Int × Int × (List Ev.Cnt) × Unit → Option ρ :=
  fun (v4, v5, v6, o7, _) => 
  (bif decide ((v6 : Int) < v5) then 
  (ix v4 v6).bind fun x8 => 
  (bif decide ((IntKind.wrap .i64 ((o7.length : Int) - 1) : Int) ≥ 0) then 
  (ix o7 (IntKind.wrap .i64 ((o7.length : Int) - 1))).bind fun _ => 
  ((o7)[(IntKind.wrap .i64 ((o7.length : Int) - 1) : Int).toNat]?).bind fun e9 => 
  (bag_Compare n (e9.r, x8.r, ())).bind fun (y10, _) => 
  (bif (y10 : Int) == 0 then 
  (ix o7 (IntKind.wrap .i64 ((o7.length : Int) - 1))).bind fun _ => 
  ((o7)[(IntKind.wrap .i64 ((o7.length : Int) - 1) : Int).toNat]?).bind fun e13 => 
  (ix o7 (IntKind.wrap .i64 ((o7.length : Int) - 1))).bind fun _ => 
  ((o7)[(IntKind.wrap .i64 ((o7.length : Int) - 1) : Int).toNat]?).bind fun e14 => rec (v4, v5, IntKind.wrap .i64 (v6 + 1), (o7).set ((IntKind.wrap .i64 ((o7.length : Int) - 1) : Int).toNat) (Ev.Cnt.mk e14.r (IntKind.wrap .i64 (e13.n + x8.n))), ())
  else 
  (bag_CopyRow n (x8.r, ())).bind fun (y15, _) => 
  ck (room (o7 ++ ([(Ev.Cnt.mk y15 x8.n)] : List Ev.Cnt)).length 32) (rec (v4, v5, IntKind.wrap .i64 (v6 + 1), o7 ++ ([(Ev.Cnt.mk y15 x8.n)] : List Ev.Cnt), ())))
  else 
  (bag_CopyRow n (x8.r, ())).bind fun (y16, _) => 
  ck (room (o7 ++ ([(Ev.Cnt.mk y16 x8.n)] : List Ev.Cnt)).length 32) (rec (v4, v5, IntKind.wrap .i64 (v6 + 1), o7 ++ ([(Ev.Cnt.mk y16 x8.n)] : List Ev.Cnt), ())))
  else kx (o7, ()))

noncomputable def F_bag_Gather_s0 {ρ : Type} (n : Nat) (kr : Unit → Option ρ) : Int → Ev.Cnt → ((List Ev.Cnt) × Unit) → (((List Ev.Cnt) × Unit) → Option ρ) → Option ρ :=
  fun v6 x8 (o7, _) rec =>  
  (bif decide ((IntKind.wrap .i64 ((o7.length : Int) - 1) : Int) ≥ 0) then 
  (ix o7 (IntKind.wrap .i64 ((o7.length : Int) - 1))).bind fun _ => 
  ((o7)[(IntKind.wrap .i64 ((o7.length : Int) - 1) : Int).toNat]?).bind fun e9 => 
  (bag_Compare n (e9.r, x8.r, ())).bind fun (y10, _) => 
  (bif (y10 : Int) == 0 then 
  (ix o7 (IntKind.wrap .i64 ((o7.length : Int) - 1))).bind fun _ => 
  ((o7)[(IntKind.wrap .i64 ((o7.length : Int) - 1) : Int).toNat]?).bind fun e13 => 
  (ix o7 (IntKind.wrap .i64 ((o7.length : Int) - 1))).bind fun _ => 
  ((o7)[(IntKind.wrap .i64 ((o7.length : Int) - 1) : Int).toNat]?).bind fun e14 => rec ((o7).set ((IntKind.wrap .i64 ((o7.length : Int) - 1) : Int).toNat) (Ev.Cnt.mk e14.r (IntKind.wrap .i64 (e13.n + x8.n))), ())
  else 
  (bag_CopyRow n (x8.r, ())).bind fun (y15, _) => 
  ck (room (o7 ++ ([(Ev.Cnt.mk y15 x8.n)] : List Ev.Cnt)).length 32) (rec (o7 ++ ([(Ev.Cnt.mk y15 x8.n)] : List Ev.Cnt), ())))
  else 
  (bag_CopyRow n (x8.r, ())).bind fun (y16, _) => 
  ck (room (o7 ++ ([(Ev.Cnt.mk y16 x8.n)] : List Ev.Cnt)).length 32) (rec (o7 ++ ([(Ev.Cnt.mk y16 x8.n)] : List Ev.Cnt), ())))

theorem R_bag_Gather_s0 {ρ : Type} (n : Nat) (kx : (List Ev.Cnt) × Unit → Option ρ) (kr : Unit → Option ρ) (l : List Ev.Cnt) (fuel : Nat) (o7 : List Ev.Cnt) (hl : l.length ≤ 9223372036854775807) (hf : l.length < fuel) :
    iterN (fun rc => bag_Gather_s0 n rc kx kr) fuel (l, (l.length : Int), 0, o7, ()) = foldK (F_bag_Gather_s0 n kr) (fun (o7, _) => kx (o7, ())) 0 l (o7, ()) :=
  range_listM l (fun i (o7, _) => (l, (l.length : Int), i, o7, ())) _ _ _ (fun rec i s => rfl) hl fuel (o7, ()) hf

/-- bag.Gather -/
noncomputable def bag_Gather (n : Nat) : (List Ev.Cnt) × Unit → Option ((List Ev.Cnt) × Unit) :=
  fun (a1, _) => 
  (slices_Clone_api_Count_api_Count_own (a1, ())).bind fun (o2, _) => 
  (slices_SortStableFunc_api_Count_api_Count_bag_Gather_1 n (o2, ())).bind fun (o3, _) => 
  iterN (fun rc19 => bag_Gather_s0 n rc19 (fun (o17, _) => 
  (slices_DeleteFunc_api_Bag_api_Count_bag_Gather_2 n (o17, ())).bind fun (o18, _) => some (o18, ())) (fun (_) => none)) (n) (o3, (o3.length : Int), 0, ([] : List Ev.Cnt), ())

/-- a round of a loop of bag.Of -/
noncomputable def bag_Of_s0 {ρ : Type} (n : Nat) (rec : (List (List Ev.Val)) × Int × Int × (List Ev.Cnt) × Unit → Option ρ) (kx : (List Ev.Cnt) × Unit → Option ρ) (kr : Unit → Option ρ) : (List (List Ev.Val)) × Int × Int × (List Ev.Cnt) × Unit → Option ρ :=
  fun (v2, v3, v4, o5, _) => 
  (bif decide ((v4 : Int) < v3) then 
  (ix v2 v4).bind fun x6 => 
  ck (room (o5 ++ ([(Ev.Cnt.mk x6 1)] : List Ev.Cnt)).length 32) (rec (v2, v3, IntKind.wrap .i64 (v4 + 1), o5 ++ ([(Ev.Cnt.mk x6 1)] : List Ev.Cnt), ()))
  else kx (o5, ()))

noncomputable def F_bag_Of_s0 {ρ : Type} (n : Nat) (kr : Unit → Option ρ) : Int → ((List Ev.Val)) → ((List Ev.Cnt) × Unit) → (((List Ev.Cnt) × Unit) → Option ρ) → Option ρ :=
  fun v4 x6 (o5, _) rec =>  
  ck (room (o5 ++ ([(Ev.Cnt.mk x6 1)] : List Ev.Cnt)).length 32) (rec (o5 ++ ([(Ev.Cnt.mk x6 1)] : List Ev.Cnt), ()))

theorem R_bag_Of_s0 {ρ : Type} (n : Nat) (kx : (List Ev.Cnt) × Unit → Option ρ) (kr : Unit → Option ρ) (l : List (List Ev.Val)) (fuel : Nat) (o5 : List Ev.Cnt) (hl : l.length ≤ 9223372036854775807) (hf : l.length < fuel) :
    iterN (fun rc => bag_Of_s0 n rc kx kr) fuel (l, (l.length : Int), 0, o5, ()) = foldK (F_bag_Of_s0 n kr) (fun (o5, _) => kx (o5, ())) 0 l (o5, ()) :=
  range_listM l (fun i (o5, _) => (l, (l.length : Int), i, o5, ())) _ _ _ (fun rec i s => rfl) hl fuel (o5, ()) hf

/-- bag.Of -/
noncomputable def bag_Of (n : Nat) : (List (List Ev.Val)) × Unit → Option ((List Ev.Cnt) × Int × Unit) :=
  fun (a1, _) => 
  (bif decide (((a1.length : Int) : Int) > 2000) then some (([] : List Ev.Cnt), 2, ())
  else 
  iterN (fun rc10 => bag_Of_s0 n rc10 (fun (o7, _) => 
  (bag_Gather n (o7, ())).bind fun (y8, _) => 
  (bag_Check n (y8, ())).bind fun (y9, _) => 
  (bif (y9 : Int) != 0 then some (([] : List Ev.Cnt), y9, ())
  else some (y8, 0, ()))) (fun (_) => none)) (n) (a1, (a1.length : Int), 0, ([] : List Ev.Cnt), ()))

/-- bag.Join$1$1 -/
noncomputable def bag_Join_1_1 : Ev.Val × Unit → Option (Bool × Unit) :=
  fun (a1, _) => some ((a1.kind : Int) == 0, ())

/-- a round of a loop of slices.IndexFunc api.Row,api.Value  -/
noncomputable def slices_IndexFunc_api_Row_api_Value_bag_Join_1_1_s0 {ρ : Type} (n : Nat) (rec : (List Ev.Val) × Int × Int × Unit → Option ρ) (kx : Unit → Option ρ) (kr : Int × Unit → Option ρ) : (List Ev.Val) × Int × Int × Unit → Option ρ :=
  fun (v2, v3, v4, _) => 
  (bif decide ((v4 : Int) < v3) then 
  (ix v2 v4).bind fun x5 => 
  (bag_Join_1_1 ((Ev.Val.mk x5.kind x5.n x5.s x5.l), ())).bind fun (y6, _) => 
  (bif y6 then kr (v4, ())
  else rec (v2, v3, IntKind.wrap .i64 (v4 + 1), ()))
  else kx (()))

noncomputable def F_slices_IndexFunc_api_Row_api_Value_bag_Join_1_1_s0 {ρ : Type} (n : Nat) (kr : Int × Unit → Option ρ) : Int → Ev.Val → Unit → (Unit → Option ρ) → Option ρ :=
  fun v4 x5 (_) rec =>  
  (bag_Join_1_1 ((Ev.Val.mk x5.kind x5.n x5.s x5.l), ())).bind fun (y6, _) => 
  (bif y6 then kr (v4, ())
  else rec (()))

theorem R_slices_IndexFunc_api_Row_api_Value_bag_Join_1_1_s0 {ρ : Type} (n : Nat) (kx : Unit → Option ρ) (kr : Int × Unit → Option ρ) (l : List Ev.Val) (fuel : Nat) (hl : l.length ≤ 9223372036854775807) (hf : l.length < fuel) :
    iterN (fun rc => slices_IndexFunc_api_Row_api_Value_bag_Join_1_1_s0 n rc kx kr) fuel (l, (l.length : Int), 0, ()) = foldK (F_slices_IndexFunc_api_Row_api_Value_bag_Join_1_1_s0 n kr) (fun (_) => kx (())) 0 l (()) :=
  range_listM l (fun i (_) => (l, (l.length : Int), i, ())) _ _ _ (fun rec i s => rfl) hl fuel (()) hf

/-- slices.IndexFunc api.Row,api.Value  -/
noncomputable def slices_IndexFunc_api_Row_api_Value_bag_Join_1_1 (n : Nat) : (List Ev.Val) × Unit → Option (Int × Unit) :=
  fun (a1, _) => 
  iterN (fun rc8 => slices_IndexFunc_api_Row_api_Value_bag_Join_1_1_s0 n rc8 (fun (_) => some ((-1), ())) (fun (v7, _) => some (v7, ()))) (n) (a1, (a1.length : Int), 0, ())

/-- slices.ContainsFunc api.Row,api.Value  -/
noncomputable def slices_ContainsFunc_api_Row_api_Value_bag_Join_1_1 (n : Nat) : (List Ev.Val) × Unit → Option (Bool × Unit) :=
  fun (a1, _) => 
  (slices_IndexFunc_api_Row_api_Value_bag_Join_1_1 n (a1, ())).bind fun (y2, _) => some (decide ((y2 : Int) ≥ 0), ())

/-- bag.size -/
noncomputable def bag_size : Int × Unit → Option (Int × Unit) :=
  fun (a1, _) => some ((if (IntKind.wrap .i64 (0 - a1)) > a1 then (IntKind.wrap .i64 (0 - a1)) else a1), ())

/-- slices.Grow api.Row,api.Value  -/
noncomputable def slices_Grow_api_Row_api_Value_own : Int × Unit → Option ((List Ev.Val) × Unit) :=
  fun (a1, _) => 
  (bif decide ((a1 : Int) < 0) then none
  else 
  (bif decide ((IntKind.wrap .i64 (a1 - 0) : Int) > 0) then 
  ck (decide ((0 : Int) = 0 ∧ (0 : Int) = 0)) (
  ck (decide (0 < (IntKind.wrap .i64 (a1 - 0))) && room (IntKind.wrap .i64 (a1 - 0) : Int).toNat 56) (
  (cut? (List.replicate (IntKind.wrap .i64 (a1 - 0) : Int).toNat (Ev.Val.mk 0 0 (⟨#[]⟩ : ByteArray) ([] : List Ev.Val))) 0).bind fun r2 => some (r2, ())))
  else some (([] : List Ev.Val), ())))

/-- a round of a loop of slices.Concat api.Row,api.Value  -/
noncomputable def slices_Concat_api_Row_api_Value_s0 {ρ : Type} (n : Nat) (rec : (List (List Ev.Val)) × Int × (List (List Ev.Val)) × Int × Int × Unit → Option ρ) (kx : (List (List Ev.Val)) × Int × Unit → Option ρ) (kr : Unit → Option ρ) : (List (List Ev.Val)) × Int × (List (List Ev.Val)) × Int × Int × Unit → Option ρ :=
  fun (v2, v3, v4, v5, v6, _) => 
  (bif decide ((v6 : Int) < v5) then 
  (ix v4 v6).bind fun x7 => 
  (bif decide ((IntKind.wrap .i64 (v3 + (x7.length : Int)) : Int) < 0) then none
  else rec (v2, IntKind.wrap .i64 (v3 + (x7.length : Int)), v4, v5, IntKind.wrap .i64 (v6 + 1), ()))
  else kx (v2, v3, ()))

/-- a round of a loop of slices.Concat api.Row,api.Value  -/
noncomputable def slices_Concat_api_Row_api_Value_s2 {ρ : Type} (n : Nat) (rec : (List (List Ev.Val)) × Int × Int × (List Ev.Val) × Unit → Option ρ) (kx : (List Ev.Val) × Unit → Option ρ) (kr : Unit → Option ρ) : (List (List Ev.Val)) × Int × Int × (List Ev.Val) × Unit → Option ρ :=
  fun (v11, v12, v13, o14, _) => 
  (bif decide ((v13 : Int) < v12) then 
  (ix v11 v13).bind fun x15 => 
  ck (room (o14 ++ x15).length 56) (rec (v11, v12, IntKind.wrap .i64 (v13 + 1), o14 ++ x15, ()))
  else kx (o14, ()))

noncomputable def F_slices_Concat_api_Row_api_Value_s0 {ρ : Type} (n : Nat) (kr : Unit → Option ρ) : Int → ((List Ev.Val)) → ((List (List Ev.Val)) × Int × Unit) → (((List (List Ev.Val)) × Int × Unit) → Option ρ) → Option ρ :=
  fun v6 x7 (v2, v3, _) rec =>  
  (bif decide ((IntKind.wrap .i64 (v3 + (x7.length : Int)) : Int) < 0) then none
  else rec (v2, IntKind.wrap .i64 (v3 + (x7.length : Int)), ()))

theorem R_slices_Concat_api_Row_api_Value_s0 {ρ : Type} (n : Nat) (kx : (List (List Ev.Val)) × Int × Unit → Option ρ) (kr : Unit → Option ρ) (l : List (List Ev.Val)) (fuel : Nat) (v2 : List (List Ev.Val)) (v3 : Int) (hl : l.length ≤ 9223372036854775807) (hf : l.length < fuel) :
    iterN (fun rc => slices_Concat_api_Row_api_Value_s0 n rc kx kr) fuel (v2, v3, l, (l.length : Int), 0, ()) = foldK (F_slices_Concat_api_Row_api_Value_s0 n kr) (fun (v2, v3, _) => kx (v2, v3, ())) 0 l (v2, v3, ()) :=
  range_listM l (fun i (v2, v3, _) => (v2, v3, l, (l.length : Int), i, ())) _ _ _ (fun rec i s => rfl) hl fuel (v2, v3, ()) hf

noncomputable def F_slices_Concat_api_Row_api_Value_s2 {ρ : Type} (n : Nat) (kr : Unit → Option ρ) : Int → ((List Ev.Val)) → ((List Ev.Val) × Unit) → (((List Ev.Val) × Unit) → Option ρ) → Option ρ :=
  fun v13 x15 (o14, _) rec =>  
  ck (room (o14 ++ x15).length 56) (rec (o14 ++ x15, ()))

theorem R_slices_Concat_api_Row_api_Value_s2 {ρ : Type} (n : Nat) (kx : (List Ev.Val) × Unit → Option ρ) (kr : Unit → Option ρ) (l : List (List Ev.Val)) (fuel : Nat) (o14 : List Ev.Val) (hl : l.length ≤ 9223372036854775807) (hf : l.length < fuel) :
    iterN (fun rc => slices_Concat_api_Row_api_Value_s2 n rc kx kr) fuel (l, (l.length : Int), 0, o14, ()) = foldK (F_slices_Concat_api_Row_api_Value_s2 n kr) (fun (o14, _) => kx (o14, ())) 0 l (o14, ()) :=
  range_listM l (fun i (o14, _) => (l, (l.length : Int), i, o14, ())) _ _ _ (fun rec i s => rfl) hl fuel (o14, ()) hf

/-- slices.Concat api.Row,api.Value  -/
noncomputable def slices_Concat_api_Row_api_Value (n : Nat) : (List (List Ev.Val)) × Unit → Option ((List Ev.Val) × Unit) :=
  fun (a1, _) => 
  iterN (fun rc18 => slices_Concat_api_Row_api_Value_s0 n rc18 (fun (v8, v9, _) => 
  (slices_Grow_api_Row_api_Value_own (v9, ())).bind fun (o10, _) => 
  iterN (fun rc17 => slices_Concat_api_Row_api_Value_s2 n rc17 (fun (o16, _) => some (o16, ())) (fun (_) => none)) (n) (v8, (v8.length : Int), 0, o10, ())) (fun (_) => none)) (n) (a1, 0, a1, (a1.length : Int), 0, ())

/-- a round of a loop of bag.Join$1 -/
noncomputable def bag_Join_1_s2 {ρ : Type} (n : Nat) (rec : (List Ev.Cnt) × Int × Int × (List Ev.Cnt) × Int × Int × (List Ev.Cnt) × (Ev.Cnt × Unit) × ((List Ev.Cnt) × Unit) × ((List Ev.Cnt) × Unit) × (Int × Unit) × (Bool × Unit) × Unit → Option ρ) (kx : (List Ev.Cnt) × Int × Int × (List Ev.Cnt) × ((List Ev.Cnt) × Unit) × ((List Ev.Cnt) × Unit) × (Int × Unit) × (Bool × Unit) × Unit → Option ρ) (kr : (List Ev.Cnt) × ((List Ev.Cnt) × Unit) × ((List Ev.Cnt) × Unit) × (Int × Unit) × (Bool × Unit) × Unit → Option ρ) : (List Ev.Cnt) × Int × Int × (List Ev.Cnt) × Int × Int × (List Ev.Cnt) × (Ev.Cnt × Unit) × ((List Ev.Cnt) × Unit) × ((List Ev.Cnt) × Unit) × (Int × Unit) × (Bool × Unit) × Unit → Option ρ :=
  fun (v14, v15, v16, v17, v18, v19, o20, o21, o22, o23, o24, o25, _) => 
  (bif decide ((v19 : Int) < v18) then 
  (ix v17 v19).bind fun x26 => 
  (lsl o21.1.r 0 o24.1).bind fun l29 => 
  (lsl x26.r 0 o24.1).bind fun l30 => 
  (bag_Compare n (l29, l30, ())).bind fun (y31, _) => 
  (bif (y31 : Int) == 0 then 
  (lsl o21.1.r 0 o24.1).bind fun l32 => 
  (slices_ContainsFunc_api_Row_api_Value_bag_Join_1_1 n (l32, ())).bind fun (y33, _) => 
  (bif !y33 then 
  (bag_size (x26.n, ())).bind fun (y34, _) => 
  (bag_size (o21.1.n, ())).bind fun (y35, _) => 
  (nz? y35).bind fun q36 => 
  (bif decide ((y34 : Int) > (bquo .i64 1099511627776 q36)) then kr (([] : List Ev.Cnt), (o22.1, ()), (o23.1, ()), (o24.1, ()), (true, ()), ())
  else 
  (lsl x26.r o24.1 (x26.r.length : Int)).bind fun l38 => 
  (slices_Concat_api_Row_api_Value n (([o21.1.r, l38] : List (List Ev.Val)), ())).bind fun (y39, _) => 
  ck (room (o20 ++ ([(Ev.Cnt.mk y39 (IntKind.wrap .i64 (o21.1.n * x26.n)))] : List Ev.Cnt)).length 32) (rec (v14, v15, v16, v17, v18, IntKind.wrap .i64 (v19 + 1), o20 ++ ([(Ev.Cnt.mk y39 (IntKind.wrap .i64 (o21.1.n * x26.n)))] : List Ev.Cnt), ((Ev.Cnt.mk o21.1.r o21.1.n), ()), (o22.1, ()), (o23.1, ()), (o24.1, ()), (o25.1, ()), ())))
  else rec (v14, v15, v16, v17, v18, IntKind.wrap .i64 (v19 + 1), o20, ((Ev.Cnt.mk o21.1.r o21.1.n), ()), (o22.1, ()), (o23.1, ()), (o24.1, ()), (o25.1, ()), ()))
  else rec (v14, v15, v16, v17, v18, IntKind.wrap .i64 (v19 + 1), o20, ((Ev.Cnt.mk o21.1.r o21.1.n), ()), (o22.1, ()), (o23.1, ()), (o24.1, ()), (o25.1, ()), ()))
  else kx (v14, v15, v16, o20, (o22.1, ()), (o23.1, ()), (o24.1, ()), (o25.1, ()), ()))

/-- a round of a loop of bag.Join$1 -/
noncomputable def bag_Join_1_s0 {ρ : Type} (n : Nat) (rec : (List Ev.Cnt) × Int × Int × (List Ev.Cnt) × ((List Ev.Cnt) × Unit) × ((List Ev.Cnt) × Unit) × (Int × Unit) × (Bool × Unit) × Unit → Option ρ) (kx : (List Ev.Cnt) × ((List Ev.Cnt) × Unit) × ((List Ev.Cnt) × Unit) × (Int × Unit) × (Bool × Unit) × Unit → Option ρ) (kr : (List Ev.Cnt) × ((List Ev.Cnt) × Unit) × ((List Ev.Cnt) × Unit) × (Int × Unit) × (Bool × Unit) × Unit → Option ρ) : (List Ev.Cnt) × Int × Int × (List Ev.Cnt) × ((List Ev.Cnt) × Unit) × ((List Ev.Cnt) × Unit) × (Int × Unit) × (Bool × Unit) × Unit → Option ρ :=
  fun (v5, v6, v7, o8, o9, o10, o11, o12, _) => 
  (bif decide ((v7 : Int) < v6) then 
  (ix v5 v7).bind fun x13 => 
  iterN (fun rc53 => bag_Join_1_s2 n rc53 (fun (v40, v41, v42, o43, o44, o45, o46, o47, _) => rec (v40, v41, IntKind.wrap .i64 (v42 + 1), o43, (o44.1, ()), (o45.1, ()), (o46.1, ()), (o47.1, ()), ())) (fun (v48, o49, o50, o51, o52, _) => kr (v48, (o49.1, ()), (o50.1, ()), (o51.1, ()), (o52.1, ()), ()))) (n) (v5, v6, v7, o10.1, (o10.1.length : Int), 0, o8, ((Ev.Cnt.mk x13.r x13.n), ()), (o9.1, ()), (o10.1, ()), (o11.1, ()), (o12.1, ()), ())
  else kx (o8, (o9.1, ()), (o10.1, ()), (o11.1, ()), (o12.1, ()), ()))

noncomputable def F_bag_Join_1_s2 {ρ : Type} (n : Nat) (kr : (List Ev.Cnt) × ((List Ev.Cnt) × Unit) × ((List Ev.Cnt) × Unit) × (Int × Unit) × (Bool × Unit) × Unit → Option ρ) : Int → Ev.Cnt → ((List Ev.Cnt) × Int × Int × (List Ev.Cnt) × (Ev.Cnt × Unit) × ((List Ev.Cnt) × Unit) × ((List Ev.Cnt) × Unit) × (Int × Unit) × (Bool × Unit) × Unit) → (((List Ev.Cnt) × Int × Int × (List Ev.Cnt) × (Ev.Cnt × Unit) × ((List Ev.Cnt) × Unit) × ((List Ev.Cnt) × Unit) × (Int × Unit) × (Bool × Unit) × Unit) → Option ρ) → Option ρ :=
  fun v19 x26 (v14, v15, v16, o20, o21, o22, o23, o24, o25, _) rec =>  
  (lsl o21.1.r 0 o24.1).bind fun l29 => 
  (lsl x26.r 0 o24.1).bind fun l30 => 
  (bag_Compare n (l29, l30, ())).bind fun (y31, _) => 
  (bif (y31 : Int) == 0 then 
  (lsl o21.1.r 0 o24.1).bind fun l32 => 
  (slices_ContainsFunc_api_Row_api_Value_bag_Join_1_1 n (l32, ())).bind fun (y33, _) => 
  (bif !y33 then 
  (bag_size (x26.n, ())).bind fun (y34, _) => 
  (bag_size (o21.1.n, ())).bind fun (y35, _) => 
  (nz? y35).bind fun q36 => 
  (bif decide ((y34 : Int) > (bquo .i64 1099511627776 q36)) then kr (([] : List Ev.Cnt), (o22.1, ()), (o23.1, ()), (o24.1, ()), (true, ()), ())
  else 
  (lsl x26.r o24.1 (x26.r.length : Int)).bind fun l38 => 
  (slices_Concat_api_Row_api_Value n (([o21.1.r, l38] : List (List Ev.Val)), ())).bind fun (y39, _) => 
  ck (room (o20 ++ ([(Ev.Cnt.mk y39 (IntKind.wrap .i64 (o21.1.n * x26.n)))] : List Ev.Cnt)).length 32) (rec (v14, v15, v16, o20 ++ ([(Ev.Cnt.mk y39 (IntKind.wrap .i64 (o21.1.n * x26.n)))] : List Ev.Cnt), ((Ev.Cnt.mk o21.1.r o21.1.n), ()), (o22.1, ()), (o23.1, ()), (o24.1, ()), (o25.1, ()), ())))
  else rec (v14, v15, v16, o20, ((Ev.Cnt.mk o21.1.r o21.1.n), ()), (o22.1, ()), (o23.1, ()), (o24.1, ()), (o25.1, ()), ()))
  else rec (v14, v15, v16, o20, ((Ev.Cnt.mk o21.1.r o21.1.n), ()), (o22.1, ()), (o23.1, ()), (o24.1, ()), (o25.1, ()), ()))

theorem R_bag_Join_1_s2 {ρ : Type} (n : Nat) (kx : (List Ev.Cnt) × Int × Int × (List Ev.Cnt) × ((List Ev.Cnt) × Unit) × ((List Ev.Cnt) × Unit) × (Int × Unit) × (Bool × Unit) × Unit → Option ρ) (kr : (List Ev.Cnt) × ((List Ev.Cnt) × Unit) × ((List Ev.Cnt) × Unit) × (Int × Unit) × (Bool × Unit) × Unit → Option ρ) (l : List Ev.Cnt) (fuel : Nat) (v14 : List Ev.Cnt) (v15 : Int) (v16 : Int) (o20 : List Ev.Cnt) (o21 : Ev.Cnt × Unit) (o22 : (List Ev.Cnt) × Unit) (o23 : (List Ev.Cnt) × Unit) (o24 : Int × Unit) (o25 : Bool × Unit) (hl : l.length ≤ 9223372036854775807) (hf : l.length < fuel) :
    iterN (fun rc => bag_Join_1_s2 n rc kx kr) fuel (v14, v15, v16, l, (l.length : Int), 0, o20, o21, o22, o23, o24, o25, ()) = foldK (F_bag_Join_1_s2 n kr) (fun (v14, v15, v16, o20, o21, o22, o23, o24, o25, _) => kx (v14, v15, v16, o20, (o22.1, ()), (o23.1, ()), (o24.1, ()), (o25.1, ()), ())) 0 l (v14, v15, v16, o20, o21, o22, o23, o24, o25, ()) :=
  range_listM l (fun i (v14, v15, v16, o20, o21, o22, o23, o24, o25, _) => (v14, v15, v16, l, (l.length : Int), i, o20, o21, o22, o23, o24, o25, ())) _ _ _ (fun rec i s => rfl) hl fuel (v14, v15, v16, o20, o21, o22, o23, o24, o25, ()) hf

/-- bag.Join$1 -/
noncomputable def bag_Join_1 (n : Nat) : ((List Ev.Cnt) × Unit) × ((List Ev.Cnt) × Unit) × (Int × Unit) × (Bool × Unit) × Unit → Option ((List Ev.Cnt) × ((List Ev.Cnt) × Unit) × ((List Ev.Cnt) × Unit) × (Int × Unit) × (Bool × Unit) × Unit) :=
  fun (o1, o2, o3, o4, _) => 
  iterN (fun rc65 => bag_Join_1_s0 n rc65 (fun (o54, o55, o56, o57, o58, _) => 
  (bag_Gather n (o54, ())).bind fun (y64, _) => some (y64, (o55.1, ()), (o56.1, ()), (o57.1, ()), (o58.1, ()), ())) (fun (v59, o60, o61, o62, o63, _) => some (v59, (o60.1, ()), (o61.1, ()), (o62.1, ()), (o63.1, ()), ()))) (n) (o1.1, (o1.1.length : Int), 0, ([] : List Ev.Cnt), (o1.1, ()), (o2.1, ()), (o3.1, ()), (o4.1, ()), ())

/-- a round of a loop of bag.both -/
noncomputable def bag_both_bag_Join_1_c_s0 {ρ : Type} (n : Nat) (rec : ((List Ev.Cnt) × (List Ev.Cnt)) × Int × ((List Ev.Cnt) × Unit) × ((List Ev.Cnt) × Unit) × (Int × Unit) × (Bool × Unit) × Unit → Option ρ) (kx : ((List Ev.Cnt) × Unit) × ((List Ev.Cnt) × Unit) × (Int × Unit) × (Bool × Unit) × Unit → Option ρ) (kr : (List Ev.Cnt) × Int × ((List Ev.Cnt) × Unit) × ((List Ev.Cnt) × Unit) × (Int × Unit) × (Bool × Unit) × Unit → Option ρ) : ((List Ev.Cnt) × (List Ev.Cnt)) × Int × ((List Ev.Cnt) × Unit) × ((List Ev.Cnt) × Unit) × (Int × Unit) × (Bool × Unit) × Unit → Option ρ :=
  fun (v7, v8, o9, o10, o11, o12, _) => 
  (bif decide ((v8 : Int) < 2) then 
  (ix ([v7.1, v7.2] : List (List Ev.Cnt)) v8).bind fun x13 => 
  (bag_Check n (x13, ())).bind fun (y14, _) => 
  (bif (y14 : Int) != 0 then kr (([] : List Ev.Cnt), y14, (o9.1, ()), (o10.1, ()), (o11.1, ()), (o12.1, ()), ())
  else rec ((v7.1, v7.2), IntKind.wrap .i64 (v8 + 1), (o9.1, ()), (o10.1, ()), (o11.1, ()), (o12.1, ()), ()))
  else kx ((o9.1, ()), (o10.1, ()), (o11.1, ()), (o12.1, ()), ()))

/-- bag.both -/
noncomputable def bag_both_bag_Join_1_c (n : Nat) : (List Ev.Cnt) × (List Ev.Cnt) × ((List Ev.Cnt) × Unit) × ((List Ev.Cnt) × Unit) × (Int × Unit) × (Bool × Unit) × Unit → Option ((List Ev.Cnt) × Int × ((List Ev.Cnt) × Unit) × ((List Ev.Cnt) × Unit) × (Int × Unit) × (Bool × Unit) × Unit) :=
  fun (a1, a2, o3, o4, o5, o6, _) => 
  iterN (fun rc31 => bag_both_bag_Join_1_c_s0 n rc31 (fun (o15, o16, o17, o18, _) => 
  (bag_Join_1 n ((o15.1, ()), (o16.1, ()), (o17.1, ()), (o18.1, ()), ())).bind fun (y25, o26, o27, o28, o29, _) => 
  (bag_Check n (y25, ())).bind fun (y30, _) => 
  (bif (y30 : Int) != 0 then some (([] : List Ev.Cnt), y30, (o26.1, ()), (o27.1, ()), (o28.1, ()), (o29.1, ()), ())
  else some (y25, 0, (o26.1, ()), (o27.1, ()), (o28.1, ()), (o29.1, ()), ()))) (fun (v19, v20, o21, o22, o23, o24, _) => some (v19, v20, (o21.1, ()), (o22.1, ()), (o23.1, ()), (o24.1, ()), ()))) (n) ((a1, a2), 0, (o3.1, ()), (o4.1, ()), (o5.1, ()), (o6.1, ()), ())

/-- a round of a loop of bag.Join -/
noncomputable def bag_Join_s2 {ρ : Type} (n : Nat) (rec : ((List Ev.Cnt) × (List Ev.Cnt)) × Int × (List Ev.Cnt) × Int × Int × ((List Ev.Cnt) × Unit) × ((List Ev.Cnt) × Unit) × (Int × Unit) × Unit → Option ρ) (kx : ((List Ev.Cnt) × (List Ev.Cnt)) × Int × ((List Ev.Cnt) × Unit) × ((List Ev.Cnt) × Unit) × (Int × Unit) × Unit → Option ρ) (kr : (List Ev.Cnt) × Int × Unit → Option ρ) : ((List Ev.Cnt) × (List Ev.Cnt)) × Int × (List Ev.Cnt) × Int × Int × ((List Ev.Cnt) × Unit) × ((List Ev.Cnt) × Unit) × (Int × Unit) × Unit → Option ρ :=
  fun (v10, v11, v12, v13, v14, o15, o16, o17, _) => 
  (bif decide ((v14 : Int) < v13) then 
  (ix v12 v14).bind fun x18 => 
  (bif decide (((x18.r.length : Int) : Int) < o17.1) then kr (([] : List Ev.Cnt), 9, ())
  else rec ((v10.1, v10.2), v11, v12, v13, IntKind.wrap .i64 (v14 + 1), (o15.1, ()), (o16.1, ()), (o17.1, ()), ()))
  else kx ((v10.1, v10.2), v11, (o15.1, ()), (o16.1, ()), (o17.1, ()), ()))

/-- a round of a loop of bag.Join -/
noncomputable def bag_Join_s0 {ρ : Type} (n : Nat) (rec : ((List Ev.Cnt) × (List Ev.Cnt)) × Int × ((List Ev.Cnt) × Unit) × ((List Ev.Cnt) × Unit) × (Int × Unit) × Unit → Option ρ) (kx : ((List Ev.Cnt) × Unit) × ((List Ev.Cnt) × Unit) × (Int × Unit) × Unit → Option ρ) (kr : (List Ev.Cnt) × Int × Unit → Option ρ) : ((List Ev.Cnt) × (List Ev.Cnt)) × Int × ((List Ev.Cnt) × Unit) × ((List Ev.Cnt) × Unit) × (Int × Unit) × Unit → Option ρ :=
  fun (v4, v5, o6, o7, o8, _) => 
  (bif decide ((v5 : Int) < 2) then 
  (ix ([v4.1, v4.2] : List (List Ev.Cnt)) v5).bind fun x9 => 
  iterN (fun rc26 => bag_Join_s2 n rc26 (fun (v19, v20, o21, o22, o23, _) => rec ((v19.1, v19.2), IntKind.wrap .i64 (v20 + 1), (o21.1, ()), (o22.1, ()), (o23.1, ()), ())) (fun (v24, v25, _) => kr (v24, v25, ()))) (n) ((v4.1, v4.2), v5, x9, (x9.length : Int), 0, (o6.1, ()), (o7.1, ()), (o8.1, ()), ())
  else kx ((o6.1, ()), (o7.1, ()), (o8.1, ()), ()))

noncomputable def F_bag_Join_s2 {ρ : Type} (n : Nat) (kr : (List Ev.Cnt) × Int × Unit → Option ρ) : Int → Ev.Cnt → (((List Ev.Cnt) × (List Ev.Cnt)) × Int × ((List Ev.Cnt) × Unit) × ((List Ev.Cnt) × Unit) × (Int × Unit) × Unit) → ((((List Ev.Cnt) × (List Ev.Cnt)) × Int × ((List Ev.Cnt) × Unit) × ((List Ev.Cnt) × Unit) × (Int × Unit) × Unit) → Option ρ) → Option ρ :=
  fun v14 x18 (v10, v11, o15, o16, o17, _) rec =>  
  (bif decide (((x18.r.length : Int) : Int) < o17.1) then kr (([] : List Ev.Cnt), 9, ())
  else rec ((v10.1, v10.2), v11, (o15.1, ()), (o16.1, ()), (o17.1, ()), ()))

theorem R_bag_Join_s2 {ρ : Type} (n : Nat) (kx : ((List Ev.Cnt) × (List Ev.Cnt)) × Int × ((List Ev.Cnt) × Unit) × ((List Ev.Cnt) × Unit) × (Int × Unit) × Unit → Option ρ) (kr : (List Ev.Cnt) × Int × Unit → Option ρ) (l : List Ev.Cnt) (fuel : Nat) (v10 : (List Ev.Cnt) × (List Ev.Cnt)) (v11 : Int) (o15 : (List Ev.Cnt) × Unit) (o16 : (List Ev.Cnt) × Unit) (o17 : Int × Unit) (hl : l.length ≤ 9223372036854775807) (hf : l.length < fuel) :
    iterN (fun rc => bag_Join_s2 n rc kx kr) fuel (v10, v11, l, (l.length : Int), 0, o15, o16, o17, ()) = foldK (F_bag_Join_s2 n kr) (fun (v10, v11, o15, o16, o17, _) => kx ((v10.1, v10.2), v11, (o15.1, ()), (o16.1, ()), (o17.1, ()), ())) 0 l (v10, v11, o15, o16, o17, ()) :=
  range_listM l (fun i (v10, v11, o15, o16, o17, _) => (v10, v11, l, (l.length : Int), i, o15, o16, o17, ())) _ _ _ (fun rec i s => rfl) hl fuel (v10, v11, o15, o16, o17, ()) hf

/-- bag.Join -/
noncomputable def bag_Join (n : Nat) : (List Ev.Cnt) × (List Ev.Cnt) × Int × Unit → Option ((List Ev.Cnt) × Int × Unit) :=
  fun (a1, a2, a3, _) => 
  (bif (decide ((a3 : Int) < 0)) || (decide ((a3 : Int) > 30)) then some (([] : List Ev.Cnt), 9, ())
  else 
  iterN (fun rc38 => bag_Join_s0 n rc38 (fun (o27, o28, o29, _) => 
  (bif decide ((IntKind.wrap .i64 ((o27.1.length : Int) * (o28.1.length : Int)) : Int) > 20000) then some (([] : List Ev.Cnt), 2, ())
  else 
  (bag_both_bag_Join_1_c n (o27.1, o28.1, (o27.1, ()), (o28.1, ()), (o29.1, ()), (false, ()), ())).bind fun (y32, y33, o34, o35, o36, o37, _) => 
  (bif o37.1 then some (([] : List Ev.Cnt), 9, ())
  else some (y32, y33, ())))) (fun (v30, v31, _) => some (v30, v31, ()))) (n) ((a1, a2), 0, (a1, ()), (a2, ()), (a3, ()), ()))

/-- bytes.Compare -/
noncomputable def bytes_Compare : (List Int) × (List Int) × Unit → Option (Int × Unit) :=
  fun (a1, a2, _) => 
  (cmpN (a1, a2, ())).bind fun (y3, _) => some (y3, ())

/-- a round of a loop of espalierref.OrderOf -/
noncomputable def espalierref_OrderOf_s1 {ρ : Type} (self_espalierref_OrderOf : Ev.Val × Ev.Val × Unit → Option (Int × Unit)) (n : Nat) (rec : Int × (Ev.Val × Unit) × (Ev.Val × Unit) × Unit → Option ρ) (kx : (Ev.Val × Unit) × (Ev.Val × Unit) × Unit → Option ρ) (kr : Int × Unit → Option ρ) : Int × (Ev.Val × Unit) × (Ev.Val × Unit) × Unit → Option ρ :=
  fun (v4, o5, o6, _) => 
  (bif (decide ((v4 : Int) < (o5.1.l.length : Int))) && (decide ((v4 : Int) < (o6.1.l.length : Int))) then 
  (ix o5.1.l v4).bind fun x9 => 
  (ix o6.1.l v4).bind fun x10 => 
  (self_espalierref_OrderOf ((Ev.Val.mk x9.kind x9.n x9.s x9.l), (Ev.Val.mk x10.kind x10.n x10.s x10.l), ())).bind fun (y11, _) => 
  (bif (y11 : Int) != 0 then kr (y11, ())
  else rec (IntKind.wrap .i64 (v4 + 1), ((Ev.Val.mk o5.1.kind o5.1.n o5.1.s o5.1.l), ()), ((Ev.Val.mk o6.1.kind o6.1.n o6.1.s o6.1.l), ()), ()))
  else kx (((Ev.Val.mk o5.1.kind o5.1.n o5.1.s o5.1.l), ()), ((Ev.Val.mk o6.1.kind o6.1.n o6.1.s o6.1.l), ()), ()))

/-- espalierref.OrderOf -/
noncomputable def espalierref_OrderOf_b (self_espalierref_OrderOf : Ev.Val × Ev.Val × Unit → Option (Int × Unit)) (n : Nat) : Ev.Val × Ev.Val × Unit → Option (Int × Unit) :=
  fun (a1, a2, _) => 
  (bif decide ((a1.kind : Int) < a2.kind) then some ((-1), ())
  else 
  (bif decide ((a1.kind : Int) > a2.kind) then some (1, ())
  else 
  (bif decide ((a1.n : Int) < a2.n) then some ((-1), ())
  else 
  (bif decide ((a1.n : Int) > a2.n) then some (1, ())
  else 
  (bif !(seq a1.s a2.s) then 
  (bytes_Compare (bytesI a1.s, bytesI a2.s, ())).bind fun (y3, _) => some (y3, ())
  else 
  iterN (fun rc15 => espalierref_OrderOf_s1 self_espalierref_OrderOf n rc15 (fun (o12, o13, _) => 
  (bif decide (((o12.1.l.length : Int) : Int) < (o13.1.l.length : Int)) then some ((-1), ())
  else 
  (bif decide (((o12.1.l.length : Int) : Int) > (o13.1.l.length : Int)) then some (1, ())
  else some (0, ())))) (fun (v14, _) => some (v14, ()))) (n) (0, ((Ev.Val.mk a1.kind a1.n a1.s a1.l), ()), ((Ev.Val.mk a2.kind a2.n a2.s a2.l), ()), ()))))))

noncomputable def espalierref_OrderOf : Nat → Ev.Val × Ev.Val × Unit → Option (Int × Unit)
  | 0, _ => none
  | n + 1, x => espalierref_OrderOf_b (espalierref_OrderOf n) n x

/-- espalierref.CompareRows -/
noncomputable def espalierref_CompareRows (n : Nat) : (List Ev.Val) × (List Ev.Val) × Unit → Option (Int × Unit) :=
  fun (a1, a2, _) => 
  (espalierref_OrderOf n ((Ev.Val.mk 4 0 (⟨#[]⟩ : ByteArray) a1), (Ev.Val.mk 4 0 (⟨#[]⟩ : ByteArray) a2), ())).bind fun (y3, _) => some (y3, ())

/-- espalierref.SameBag$1 -/
noncomputable def espalierref_SameBag_1 (n : Nat) : Ev.Cnt × Ev.Cnt × Unit → Option (Bool × Unit) :=
  fun (a1, a2, _) => 
  (bif (a1.n : Int) == a2.n then 
  (espalierref_CompareRows n (a1.r, a2.r, ())).bind fun (y3, _) => some ((y3 : Int) == 0, ())
  else some (false, ()))

/-- a round of a loop of slices.EqualFunc api.Bag,api.Bag,api.Count,api.Count  -/
noncomputable def slices_EqualFunc_api_Bag_api_Bag_api_Count_api_Count_espalierref_SameBag_1_s0 {ρ : Type} (n : Nat) (rec : (List Ev.Cnt) × (List Ev.Cnt) × Int × Int × Unit → Option ρ) (kx : Unit → Option ρ) (kr : Bool × Unit → Option ρ) : (List Ev.Cnt) × (List Ev.Cnt) × Int × Int × Unit → Option ρ :=
  fun (v3, v4, v5, v6, _) => 
  (bif decide ((v6 : Int) < v5) then 
  (ix v4 v6).bind fun x7 => 
  (ix v3 v6).bind fun x8 => 
  (espalierref_SameBag_1 n ((Ev.Cnt.mk x7.r x7.n), (Ev.Cnt.mk x8.r x8.n), ())).bind fun (y9, _) => 
  (bif !y9 then kr (false, ())
  else rec (v3, v4, v5, IntKind.wrap .i64 (v6 + 1), ()))
  else kx (()))

noncomputable def F_slices_EqualFunc_api_Bag_api_Bag_api_Count_api_Count_espalierref_SameBag_1_s0 {ρ : Type} (n : Nat) (kr : Bool × Unit → Option ρ) : Int → Ev.Cnt → ((List Ev.Cnt) × Unit) → (((List Ev.Cnt) × Unit) → Option ρ) → Option ρ :=
  fun v6 x7 (v3, _) rec =>  
  (ix v3 v6).bind fun x8 => 
  (espalierref_SameBag_1 n ((Ev.Cnt.mk x7.r x7.n), (Ev.Cnt.mk x8.r x8.n), ())).bind fun (y9, _) => 
  (bif !y9 then kr (false, ())
  else rec (v3, ()))

theorem R_slices_EqualFunc_api_Bag_api_Bag_api_Count_api_Count_espalierref_SameBag_1_s0 {ρ : Type} (n : Nat) (kx : Unit → Option ρ) (kr : Bool × Unit → Option ρ) (l : List Ev.Cnt) (fuel : Nat) (v3 : List Ev.Cnt) (hl : l.length ≤ 9223372036854775807) (hf : l.length < fuel) :
    iterN (fun rc => slices_EqualFunc_api_Bag_api_Bag_api_Count_api_Count_espalierref_SameBag_1_s0 n rc kx kr) fuel (v3, l, (l.length : Int), 0, ()) = foldK (F_slices_EqualFunc_api_Bag_api_Bag_api_Count_api_Count_espalierref_SameBag_1_s0 n kr) (fun (v3, _) => kx (())) 0 l (v3, ()) :=
  range_listM l (fun i (v3, _) => (v3, l, (l.length : Int), i, ())) _ _ _ (fun rec i s => rfl) hl fuel (v3, ()) hf

/-- slices.EqualFunc api.Bag,api.Bag,api.Count,api.Count  -/
noncomputable def slices_EqualFunc_api_Bag_api_Bag_api_Count_api_Count_espalierref_SameBag_1 (n : Nat) : (List Ev.Cnt) × (List Ev.Cnt) × Unit → Option (Bool × Unit) :=
  fun (a1, a2, _) => 
  (bif ((a1.length : Int) : Int) != (a2.length : Int) then some (false, ())
  else 
  iterN (fun rc11 => slices_EqualFunc_api_Bag_api_Bag_api_Count_api_Count_espalierref_SameBag_1_s0 n rc11 (fun (_) => some (true, ())) (fun (v10, _) => some (v10, ()))) (n) (a2, a1, (a1.length : Int), 0, ()))

/-- espalierref.SameBag -/
noncomputable def espalierref_SameBag (n : Nat) : (List Ev.Cnt) × (List Ev.Cnt) × Unit → Option (Bool × Unit) :=
  fun (a1, a2, _) => 
  (slices_EqualFunc_api_Bag_api_Bag_api_Count_api_Count_espalierref_SameBag_1 n (a1, a2, ())).bind fun (y3, _) => some (y3, ())

/-- espalierlaw.bagged -/
noncomputable def espalierlaw_bagged (n : Nat) : Unit → Option (Bool × Unit) :=
  fun (_) => 
  (espalierlaw_num (2, ())).bind fun (y1, _) => 
  (espalierlaw_num (1, ())).bind fun (y2, _) => 
  (espalierlaw_num (2, ())).bind fun (y3, _) => 
  (bag_Of n (([([(Ev.Val.mk y1.kind y1.n y1.s y1.l)] : List Ev.Val), ([(Ev.Val.mk y2.kind y2.n y2.s y2.l)] : List Ev.Val), ([(Ev.Val.mk y3.kind y3.n y3.s y3.l)] : List Ev.Val)] : List (List Ev.Val)), ())).bind fun (y4, y5, _) => 
  (bag_Join n (y4, y4, 1, ())).bind fun (y6, y7, _) => 
  (bif ((y5 : Int) == 0) && ((y7 : Int) == 0) then 
  (espalierlaw_num (1, ())).bind fun (y8, _) => 
  (espalierlaw_num (2, ())).bind fun (y9, _) => 
  (espalierref_SameBag n (y4, ([(Ev.Cnt.mk ([(Ev.Val.mk y8.kind y8.n y8.s y8.l)] : List Ev.Val) 1), (Ev.Cnt.mk ([(Ev.Val.mk y9.kind y9.n y9.s y9.l)] : List Ev.Val) 2)] : List Ev.Cnt), ())).bind fun (y10, _) => 
  (bif y10 then 
  (espalierlaw_num (1, ())).bind fun (y11, _) => 
  (espalierlaw_num (2, ())).bind fun (y12, _) => 
  (espalierref_SameBag n (y6, ([(Ev.Cnt.mk ([(Ev.Val.mk y11.kind y11.n y11.s y11.l)] : List Ev.Val) 1), (Ev.Cnt.mk ([(Ev.Val.mk y12.kind y12.n y12.s y12.l)] : List Ev.Val) 4)] : List Ev.Cnt), ())).bind fun (y13, _) => some (y13, ())
  else some (false, ()))
  else some (false, ()))

/-- slices.Clone api.Bag,api.Count  -/
noncomputable def slices_Clone_api_Bag_api_Count_own : (List Ev.Cnt) × Unit → Option ((List Ev.Cnt) × Unit) :=
  fun (a1, _) => 
  nilq a1 (some (([] : List Ev.Cnt), ())) (
  ck (room (([] : List Ev.Cnt) ++ a1).length 32) (some (([] : List Ev.Cnt) ++ a1, ())))

/-- a round of a loop of bag.Add$1 -/
noncomputable def bag_Add_1_s0 {ρ : Type} (n : Nat) (rec : (List Ev.Cnt) × Int × Int × (List Ev.Cnt) × ((List Ev.Cnt) × Unit) × ((List Ev.Cnt) × Unit) × (Int × Unit) × Unit → Option ρ) (kx : (List Ev.Cnt) × ((List Ev.Cnt) × Unit) × ((List Ev.Cnt) × Unit) × (Int × Unit) × Unit → Option ρ) (kr : Unit → Option ρ) : (List Ev.Cnt) × Int × Int × (List Ev.Cnt) × ((List Ev.Cnt) × Unit) × ((List Ev.Cnt) × Unit) × (Int × Unit) × Unit → Option ρ :=
  fun (v5, v6, v7, o8, o9, o10, o11, _) => 
  (bif decide ((v7 : Int) < v6) then 
  (ix v5 v7).bind fun x12 => 
  ck (room (o8 ++ ([(Ev.Cnt.mk x12.r (IntKind.wrap .i64 (x12.n * o11.1)))] : List Ev.Cnt)).length 32) (rec (v5, v6, IntKind.wrap .i64 (v7 + 1), o8 ++ ([(Ev.Cnt.mk x12.r (IntKind.wrap .i64 (x12.n * o11.1)))] : List Ev.Cnt), (o9.1, ()), (o10.1, ()), (o11.1, ()), ()))
  else kx (o8, (o9.1, ()), (o10.1, ()), (o11.1, ()), ()))

noncomputable def F_bag_Add_1_s0 {ρ : Type} (n : Nat) (kr : Unit → Option ρ) : Int → Ev.Cnt → ((List Ev.Cnt) × ((List Ev.Cnt) × Unit) × ((List Ev.Cnt) × Unit) × (Int × Unit) × Unit) → (((List Ev.Cnt) × ((List Ev.Cnt) × Unit) × ((List Ev.Cnt) × Unit) × (Int × Unit) × Unit) → Option ρ) → Option ρ :=
  fun v7 x12 (o8, o9, o10, o11, _) rec =>  
  ck (room (o8 ++ ([(Ev.Cnt.mk x12.r (IntKind.wrap .i64 (x12.n * o11.1)))] : List Ev.Cnt)).length 32) (rec (o8 ++ ([(Ev.Cnt.mk x12.r (IntKind.wrap .i64 (x12.n * o11.1)))] : List Ev.Cnt), (o9.1, ()), (o10.1, ()), (o11.1, ()), ()))

theorem R_bag_Add_1_s0 {ρ : Type} (n : Nat) (kx : (List Ev.Cnt) × ((List Ev.Cnt) × Unit) × ((List Ev.Cnt) × Unit) × (Int × Unit) × Unit → Option ρ) (kr : Unit → Option ρ) (l : List Ev.Cnt) (fuel : Nat) (o8 : List Ev.Cnt) (o9 : (List Ev.Cnt) × Unit) (o10 : (List Ev.Cnt) × Unit) (o11 : Int × Unit) (hl : l.length ≤ 9223372036854775807) (hf : l.length < fuel) :
    iterN (fun rc => bag_Add_1_s0 n rc kx kr) fuel (l, (l.length : Int), 0, o8, o9, o10, o11, ()) = foldK (F_bag_Add_1_s0 n kr) (fun (o8, o9, o10, o11, _) => kx (o8, (o9.1, ()), (o10.1, ()), (o11.1, ()), ())) 0 l (o8, o9, o10, o11, ()) :=
  range_listM l (fun i (o8, o9, o10, o11, _) => (l, (l.length : Int), i, o8, o9, o10, o11, ())) _ _ _ (fun rec i s => rfl) hl fuel (o8, o9, o10, o11, ()) hf

/-- bag.Add$1 -/
noncomputable def bag_Add_1 (n : Nat) : ((List Ev.Cnt) × Unit) × ((List Ev.Cnt) × Unit) × (Int × Unit) × Unit → Option ((List Ev.Cnt) × ((List Ev.Cnt) × Unit) × ((List Ev.Cnt) × Unit) × (Int × Unit) × Unit) :=
  fun (o1, o2, o3, _) => 
  (slices_Clone_api_Bag_api_Count_own (o1.1, ())).bind fun (o4, _) => 
  iterN (fun rc18 => bag_Add_1_s0 n rc18 (fun (o13, o14, o15, o16, _) => 
  (bag_Gather n (o13, ())).bind fun (y17, _) => some (y17, (o14.1, ()), (o15.1, ()), (o16.1, ()), ())) (fun (_) => none)) (n) (o2.1, (o2.1.length : Int), 0, o4, (o1.1, ()), (o2.1, ()), (o3.1, ()), ())

/-- a round of a loop of bag.both -/
noncomputable def bag_both_bag_Add_1_c_s0 {ρ : Type} (n : Nat) (rec : ((List Ev.Cnt) × (List Ev.Cnt)) × Int × ((List Ev.Cnt) × Unit) × ((List Ev.Cnt) × Unit) × (Int × Unit) × Unit → Option ρ) (kx : ((List Ev.Cnt) × Unit) × ((List Ev.Cnt) × Unit) × (Int × Unit) × Unit → Option ρ) (kr : (List Ev.Cnt) × Int × ((List Ev.Cnt) × Unit) × ((List Ev.Cnt) × Unit) × (Int × Unit) × Unit → Option ρ) : ((List Ev.Cnt) × (List Ev.Cnt)) × Int × ((List Ev.Cnt) × Unit) × ((List Ev.Cnt) × Unit) × (Int × Unit) × Unit → Option ρ :=
  fun (v6, v7, o8, o9, o10, _) => 
  (bif decide ((v7 : Int) < 2) then 
  (ix ([v6.1, v6.2] : List (List Ev.Cnt)) v7).bind fun x11 => 
  (bag_Check n (x11, ())).bind fun (y12, _) => 
  (bif (y12 : Int) != 0 then kr (([] : List Ev.Cnt), y12, (o8.1, ()), (o9.1, ()), (o10.1, ()), ())
  else rec ((v6.1, v6.2), IntKind.wrap .i64 (v7 + 1), (o8.1, ()), (o9.1, ()), (o10.1, ()), ()))
  else kx ((o8.1, ()), (o9.1, ()), (o10.1, ()), ()))

/-- bag.both -/
noncomputable def bag_both_bag_Add_1_c (n : Nat) : (List Ev.Cnt) × (List Ev.Cnt) × ((List Ev.Cnt) × Unit) × ((List Ev.Cnt) × Unit) × (Int × Unit) × Unit → Option ((List Ev.Cnt) × Int × ((List Ev.Cnt) × Unit) × ((List Ev.Cnt) × Unit) × (Int × Unit) × Unit) :=
  fun (a1, a2, o3, o4, o5, _) => 
  iterN (fun rc26 => bag_both_bag_Add_1_c_s0 n rc26 (fun (o13, o14, o15, _) => 
  (bag_Add_1 n ((o13.1, ()), (o14.1, ()), (o15.1, ()), ())).bind fun (y21, o22, o23, o24, _) => 
  (bag_Check n (y21, ())).bind fun (y25, _) => 
  (bif (y25 : Int) != 0 then some (([] : List Ev.Cnt), y25, (o22.1, ()), (o23.1, ()), (o24.1, ()), ())
  else some (y21, 0, (o22.1, ()), (o23.1, ()), (o24.1, ()), ()))) (fun (v16, v17, o18, o19, o20, _) => some (v16, v17, (o18.1, ()), (o19.1, ()), (o20.1, ()), ()))) (n) ((a1, a2), 0, (o3.1, ()), (o4.1, ()), (o5.1, ()), ())

/-- bag.Add -/
noncomputable def bag_Add (n : Nat) : (List Ev.Cnt) × (List Ev.Cnt) × Int × Unit → Option ((List Ev.Cnt) × Int × Unit) :=
  fun (a1, a2, a3, _) => 
  (bif (decide ((a3 : Int) > 1000)) || (decide ((a3 : Int) < (-1000))) then some (([] : List Ev.Cnt), 9, ())
  else 
  (bag_both_bag_Add_1_c n (a1, a2, (a1, ()), (a2, ()), (a3, ()), ())).bind fun (y4, y5, o6, o7, o8, _) => some (y4, y5, ()))

/-- espalierlaw.BagOnce -/
noncomputable def espalierlaw_BagOnce (n : Nat) : (List Ev.Cnt) × Unit → Option (Bool × Unit) :=
  fun (a1, _) => 
  (bag_Distinct n (a1, ())).bind fun (y2, y3, _) => 
  (espalierlaw_bagged n (())).bind fun (y4, _) => 
  (bif (!y4) || ((y3 : Int) != 0) then 
  (espalierlaw_bagged n (())).bind fun (y5, _) => some (y5, ())
  else 
  (bag_Distinct n (y2, ())).bind fun (y6, y7, _) => 
  (bif (y7 : Int) != 0 then some (false, ())
  else 
  (espalierref_SameBag n (y2, y6, ())).bind fun (y8, _) => 
  (bif !y8 then some (false, ())
  else 
  (bag_Join n (a1, ([(Ev.Cnt.mk ([] : List Ev.Val) 1)] : List Ev.Cnt), 0, ())).bind fun (y9, y10, _) => 
  (bif (y10 : Int) != 0 then some (false, ())
  else 
  (espalierref_SameBag n (y9, a1, ())).bind fun (y11, _) => 
  (bif !y11 then some (false, ())
  else 
  (bag_Add n (a1, a1, (-1), ())).bind fun (y12, y13, _) => some (((y13 : Int) == 0) && (((y12.length : Int) : Int) == 0), ()))))))

/-- a round of a loop of bag.Pick$1 -/
noncomputable def bag_Pick_1_s2 {ρ : Type} (n : Nat) (rec : (List Ev.Cnt) × Int × Int × (List Int) × Int × Int × (List Ev.Cnt) × (Ev.Cnt × Unit) × (List Ev.Val) × ((List Ev.Cnt) × Unit) × ((List Int) × Unit) × Unit → Option ρ) (kx : (List Ev.Cnt) × Int × Int × (List Ev.Cnt) × (Ev.Cnt × Unit) × (List Ev.Val) × ((List Ev.Cnt) × Unit) × ((List Int) × Unit) × Unit → Option ρ) (kr : Unit → Option ρ) : (List Ev.Cnt) × Int × Int × (List Int) × Int × Int × (List Ev.Cnt) × (Ev.Cnt × Unit) × (List Ev.Val) × ((List Ev.Cnt) × Unit) × ((List Int) × Unit) × Unit → Option ρ :=
  fun (v10, v11, v12, v13, v14, v15, o16, o17, o18, o19, o20, _) => 
  (bif decide ((v15 : Int) < v14) then 
  (ix v13 v15).bind fun x21 => 
  (ix o17.1.r x21).bind fun x22 => 
  ck (room (o18 ++ ([(Ev.Val.mk x22.kind x22.n x22.s x22.l)] : List Ev.Val)).length 56) (rec (v10, v11, v12, v13, v14, IntKind.wrap .i64 (v15 + 1), o16, ((Ev.Cnt.mk o17.1.r o17.1.n), ()), o18 ++ ([(Ev.Val.mk x22.kind x22.n x22.s x22.l)] : List Ev.Val), (o19.1, ()), (o20.1, ()), ()))
  else kx (v10, v11, v12, o16, ((Ev.Cnt.mk o17.1.r o17.1.n), ()), o18, (o19.1, ()), (o20.1, ()), ()))

/-- a round of a loop of bag.Pick$1 -/
noncomputable def bag_Pick_1_s0 {ρ : Type} (n : Nat) (rec : (List Ev.Cnt) × Int × Int × (List Ev.Cnt) × ((List Ev.Cnt) × Unit) × ((List Int) × Unit) × Unit → Option ρ) (kx : (List Ev.Cnt) × ((List Ev.Cnt) × Unit) × ((List Int) × Unit) × Unit → Option ρ) (kr : Unit → Option ρ) : (List Ev.Cnt) × Int × Int × (List Ev.Cnt) × ((List Ev.Cnt) × Unit) × ((List Int) × Unit) × Unit → Option ρ :=
  fun (v3, v4, v5, o6, o7, o8, _) => 
  (bif decide ((v5 : Int) < v4) then 
  (ix v3 v5).bind fun x9 => 
  iterN (fun rc31 => bag_Pick_1_s2 n rc31 (fun (v23, v24, v25, o26, o27, o28, o29, o30, _) => 
  ck (room (o26 ++ ([(Ev.Cnt.mk o28 o27.1.n)] : List Ev.Cnt)).length 32) (rec (v23, v24, IntKind.wrap .i64 (v25 + 1), o26 ++ ([(Ev.Cnt.mk o28 o27.1.n)] : List Ev.Cnt), (o29.1, ()), (o30.1, ()), ()))) (fun (_) => none)) (n) (v3, v4, v5, o8.1, (o8.1.length : Int), 0, o6, ((Ev.Cnt.mk x9.r x9.n), ()), ([] : List Ev.Val), (o7.1, ()), (o8.1, ()), ())
  else kx (o6, (o7.1, ()), (o8.1, ()), ()))

noncomputable def F_bag_Pick_1_s2 {ρ : Type} (n : Nat) (kr : Unit → Option ρ) : Int → Int → ((List Ev.Cnt) × Int × Int × (List Ev.Cnt) × (Ev.Cnt × Unit) × (List Ev.Val) × ((List Ev.Cnt) × Unit) × ((List Int) × Unit) × Unit) → (((List Ev.Cnt) × Int × Int × (List Ev.Cnt) × (Ev.Cnt × Unit) × (List Ev.Val) × ((List Ev.Cnt) × Unit) × ((List Int) × Unit) × Unit) → Option ρ) → Option ρ :=
  fun v15 x21 (v10, v11, v12, o16, o17, o18, o19, o20, _) rec =>  
  (ix o17.1.r x21).bind fun x22 => 
  ck (room (o18 ++ ([(Ev.Val.mk x22.kind x22.n x22.s x22.l)] : List Ev.Val)).length 56) (rec (v10, v11, v12, o16, ((Ev.Cnt.mk o17.1.r o17.1.n), ()), o18 ++ ([(Ev.Val.mk x22.kind x22.n x22.s x22.l)] : List Ev.Val), (o19.1, ()), (o20.1, ()), ()))

theorem R_bag_Pick_1_s2 {ρ : Type} (n : Nat) (kx : (List Ev.Cnt) × Int × Int × (List Ev.Cnt) × (Ev.Cnt × Unit) × (List Ev.Val) × ((List Ev.Cnt) × Unit) × ((List Int) × Unit) × Unit → Option ρ) (kr : Unit → Option ρ) (l : List Int) (fuel : Nat) (v10 : List Ev.Cnt) (v11 : Int) (v12 : Int) (o16 : List Ev.Cnt) (o17 : Ev.Cnt × Unit) (o18 : List Ev.Val) (o19 : (List Ev.Cnt) × Unit) (o20 : (List Int) × Unit) (hl : l.length ≤ 9223372036854775807) (hf : l.length < fuel) :
    iterN (fun rc => bag_Pick_1_s2 n rc kx kr) fuel (v10, v11, v12, l, (l.length : Int), 0, o16, o17, o18, o19, o20, ()) = foldK (F_bag_Pick_1_s2 n kr) (fun (v10, v11, v12, o16, o17, o18, o19, o20, _) => kx (v10, v11, v12, o16, ((Ev.Cnt.mk o17.1.r o17.1.n), ()), o18, (o19.1, ()), (o20.1, ()), ())) 0 l (v10, v11, v12, o16, o17, o18, o19, o20, ()) :=
  range_listM l (fun i (v10, v11, v12, o16, o17, o18, o19, o20, _) => (v10, v11, v12, l, (l.length : Int), i, o16, o17, o18, o19, o20, ())) _ _ _ (fun rec i s => rfl) hl fuel (v10, v11, v12, o16, o17, o18, o19, o20, ()) hf

/-- bag.Pick$1 -/
noncomputable def bag_Pick_1 (n : Nat) : ((List Ev.Cnt) × Unit) × ((List Int) × Unit) × Unit → Option ((List Ev.Cnt) × ((List Ev.Cnt) × Unit) × ((List Int) × Unit) × Unit) :=
  fun (o1, o2, _) => 
  iterN (fun rc36 => bag_Pick_1_s0 n rc36 (fun (o32, o33, o34, _) => 
  (bag_Gather n (o32, ())).bind fun (y35, _) => some (y35, (o33.1, ()), (o34.1, ()), ())) (fun (_) => none)) (n) (o1.1, (o1.1.length : Int), 0, ([] : List Ev.Cnt), (o1.1, ()), (o2.1, ()), ())

/-- a round of a loop of bag.both -/
noncomputable def bag_both_bag_Pick_1_c_s0 {ρ : Type} (n : Nat) (rec : ((List Ev.Cnt) × (List Ev.Cnt)) × Int × ((List Ev.Cnt) × Unit) × ((List Int) × Unit) × Unit → Option ρ) (kx : ((List Ev.Cnt) × Unit) × ((List Int) × Unit) × Unit → Option ρ) (kr : (List Ev.Cnt) × Int × ((List Ev.Cnt) × Unit) × ((List Int) × Unit) × Unit → Option ρ) : ((List Ev.Cnt) × (List Ev.Cnt)) × Int × ((List Ev.Cnt) × Unit) × ((List Int) × Unit) × Unit → Option ρ :=
  fun (v5, v6, o7, o8, _) => 
  (bif decide ((v6 : Int) < 2) then 
  (ix ([v5.1, v5.2] : List (List Ev.Cnt)) v6).bind fun x9 => 
  (bag_Check n (x9, ())).bind fun (y10, _) => 
  (bif (y10 : Int) != 0 then kr (([] : List Ev.Cnt), y10, (o7.1, ()), (o8.1, ()), ())
  else rec ((v5.1, v5.2), IntKind.wrap .i64 (v6 + 1), (o7.1, ()), (o8.1, ()), ()))
  else kx ((o7.1, ()), (o8.1, ()), ()))

/-- bag.both -/
noncomputable def bag_both_bag_Pick_1_c (n : Nat) : (List Ev.Cnt) × (List Ev.Cnt) × ((List Ev.Cnt) × Unit) × ((List Int) × Unit) × Unit → Option ((List Ev.Cnt) × Int × ((List Ev.Cnt) × Unit) × ((List Int) × Unit) × Unit) :=
  fun (a1, a2, o3, o4, _) => 
  iterN (fun rc21 => bag_both_bag_Pick_1_c_s0 n rc21 (fun (o11, o12, _) => 
  (bag_Pick_1 n ((o11.1, ()), (o12.1, ()), ())).bind fun (y17, o18, o19, _) => 
  (bag_Check n (y17, ())).bind fun (y20, _) => 
  (bif (y20 : Int) != 0 then some (([] : List Ev.Cnt), y20, (o18.1, ()), (o19.1, ()), ())
  else some (y17, 0, (o18.1, ()), (o19.1, ()), ()))) (fun (v13, v14, o15, o16, _) => some (v13, v14, (o15.1, ()), (o16.1, ()), ()))) (n) ((a1, a2), 0, (o3.1, ()), (o4.1, ()), ())

/-- a round of a loop of bag.Pick -/
noncomputable def bag_Pick_s2 {ρ : Type} (n : Nat) (rec : (List Ev.Cnt) × Int × Int × (List Int) × Int × Int × ((List Ev.Cnt) × Unit) × ((List Int) × Unit) × (Ev.Cnt × Unit) × Unit → Option ρ) (kx : (List Ev.Cnt) × Int × Int × ((List Ev.Cnt) × Unit) × ((List Int) × Unit) × Unit → Option ρ) (kr : (List Ev.Cnt) × Int × Unit → Option ρ) : (List Ev.Cnt) × Int × Int × (List Int) × Int × Int × ((List Ev.Cnt) × Unit) × ((List Int) × Unit) × (Ev.Cnt × Unit) × Unit → Option ρ :=
  fun (v9, v10, v11, v12, v13, v14, o15, o16, o17, _) => 
  (bif decide ((v14 : Int) < v13) then 
  (ix v12 v14).bind fun x18 => 
  (bif (decide ((x18 : Int) < 0)) || (decide ((x18 : Int) ≥ (o17.1.r.length : Int))) then kr (([] : List Ev.Cnt), 9, ())
  else rec (v9, v10, v11, v12, v13, IntKind.wrap .i64 (v14 + 1), (o15.1, ()), (o16.1, ()), ((Ev.Cnt.mk o17.1.r o17.1.n), ()), ()))
  else kx (v9, v10, v11, (o15.1, ()), (o16.1, ()), ()))

/-- a round of a loop of bag.Pick -/
noncomputable def bag_Pick_s0 {ρ : Type} (n : Nat) (rec : (List Ev.Cnt) × Int × Int × ((List Ev.Cnt) × Unit) × ((List Int) × Unit) × Unit → Option ρ) (kx : ((List Ev.Cnt) × Unit) × ((List Int) × Unit) × Unit → Option ρ) (kr : (List Ev.Cnt) × Int × Unit → Option ρ) : (List Ev.Cnt) × Int × Int × ((List Ev.Cnt) × Unit) × ((List Int) × Unit) × Unit → Option ρ :=
  fun (v3, v4, v5, o6, o7, _) => 
  (bif decide ((v5 : Int) < v4) then 
  (ix v3 v5).bind fun x8 => 
  iterN (fun rc26 => bag_Pick_s2 n rc26 (fun (v19, v20, v21, o22, o23, _) => rec (v19, v20, IntKind.wrap .i64 (v21 + 1), (o22.1, ()), (o23.1, ()), ())) (fun (v24, v25, _) => kr (v24, v25, ()))) (n) (v3, v4, v5, o7.1, (o7.1.length : Int), 0, (o6.1, ()), (o7.1, ()), ((Ev.Cnt.mk x8.r x8.n), ()), ())
  else kx ((o6.1, ()), (o7.1, ()), ()))

noncomputable def F_bag_Pick_s2 {ρ : Type} (n : Nat) (kr : (List Ev.Cnt) × Int × Unit → Option ρ) : Int → Int → ((List Ev.Cnt) × Int × Int × ((List Ev.Cnt) × Unit) × ((List Int) × Unit) × (Ev.Cnt × Unit) × Unit) → (((List Ev.Cnt) × Int × Int × ((List Ev.Cnt) × Unit) × ((List Int) × Unit) × (Ev.Cnt × Unit) × Unit) → Option ρ) → Option ρ :=
  fun v14 x18 (v9, v10, v11, o15, o16, o17, _) rec =>  
  (bif (decide ((x18 : Int) < 0)) || (decide ((x18 : Int) ≥ (o17.1.r.length : Int))) then kr (([] : List Ev.Cnt), 9, ())
  else rec (v9, v10, v11, (o15.1, ()), (o16.1, ()), ((Ev.Cnt.mk o17.1.r o17.1.n), ()), ()))

theorem R_bag_Pick_s2 {ρ : Type} (n : Nat) (kx : (List Ev.Cnt) × Int × Int × ((List Ev.Cnt) × Unit) × ((List Int) × Unit) × Unit → Option ρ) (kr : (List Ev.Cnt) × Int × Unit → Option ρ) (l : List Int) (fuel : Nat) (v9 : List Ev.Cnt) (v10 : Int) (v11 : Int) (o15 : (List Ev.Cnt) × Unit) (o16 : (List Int) × Unit) (o17 : Ev.Cnt × Unit) (hl : l.length ≤ 9223372036854775807) (hf : l.length < fuel) :
    iterN (fun rc => bag_Pick_s2 n rc kx kr) fuel (v9, v10, v11, l, (l.length : Int), 0, o15, o16, o17, ()) = foldK (F_bag_Pick_s2 n kr) (fun (v9, v10, v11, o15, o16, o17, _) => kx (v9, v10, v11, (o15.1, ()), (o16.1, ()), ())) 0 l (v9, v10, v11, o15, o16, o17, ()) :=
  range_listM l (fun i (v9, v10, v11, o15, o16, o17, _) => (v9, v10, v11, l, (l.length : Int), i, o15, o16, o17, ())) _ _ _ (fun rec i s => rfl) hl fuel (v9, v10, v11, o15, o16, o17, ()) hf

/-- bag.Pick -/
noncomputable def bag_Pick (n : Nat) : (List Ev.Cnt) × (List Int) × Unit → Option ((List Ev.Cnt) × Int × Unit) :=
  fun (a1, a2, _) => 
  (bif decide (((a2.length : Int) : Int) > 30) then some (([] : List Ev.Cnt), 2, ())
  else 
  iterN (fun rc35 => bag_Pick_s0 n rc35 (fun (o27, o28, _) => 
  (bag_both_bag_Pick_1_c n (o27.1, ([] : List Ev.Cnt), (o27.1, ()), (o28.1, ()), ())).bind fun (y31, y32, o33, o34, _) => some (y31, y32, ())) (fun (v29, v30, _) => some (v29, v30, ()))) (n) (a1, (a1.length : Int), 0, (a1, ()), (a2, ()), ()))

/-- espalierlaw.BagRing -/
noncomputable def espalierlaw_BagRing (n : Nat) : (List Ev.Cnt) × (List Ev.Cnt) × (List Ev.Cnt) × (List Int) × Unit → Option (Bool × Unit) :=
  fun (a1, a2, a3, a4, _) => 
  (bag_Add n (a1, a2, 1, ())).bind fun (y5, y6, _) => 
  (bag_Add n (a2, a1, 1, ())).bind fun (y7, y8, _) => 
  (espalierlaw_bagged n (())).bind fun (y9, _) => 
  (bif ((!y9) || ((y6 : Int) != 0)) || ((y8 : Int) != 0) then 
  (espalierlaw_bagged n (())).bind fun (y10, _) => some (y10, ())
  else 
  (bag_Add n (y5, a2, (-1), ())).bind fun (y11, y12, _) => 
  (espalierref_SameBag n (y5, y7, ())).bind fun (y13, _) => 
  (bif (!y13) || ((y12 : Int) != 0) then some (false, ())
  else 
  (espalierref_SameBag n (y11, a1, ())).bind fun (y14, _) => 
  (bif !y14 then some (false, ())
  else 
  (bag_Pick n (y5, a4, ())).bind fun (y15, y16, _) => 
  (bag_Pick n (a1, a4, ())).bind fun (y17, y18, _) => 
  (bag_Pick n (a2, a4, ())).bind fun (y19, y20, _) => 
  (bif (((y16 : Int) == 0) && ((y18 : Int) == 0)) && ((y20 : Int) == 0) then 
  (bag_Add n (y17, y19, 1, ())).bind fun (y21, y22, _) => 
  (bif (y22 : Int) != 0 then some (false, ())
  else 
  (espalierref_SameBag n (y15, y21, ())).bind fun (y23, _) => 
  (bif !y23 then some (false, ())
  else 
  (bag_Join n (y5, a3, 1, ())).bind fun (y24, y25, _) => 
  (bag_Join n (a1, a3, 1, ())).bind fun (y26, y27, _) => 
  (bag_Join n (a2, a3, 1, ())).bind fun (y28, y29, _) => 
  (bif (((y25 : Int) != 0) || ((y27 : Int) != 0)) || ((y29 : Int) != 0) then some (true, ())
  else 
  (bag_Add n (y26, y28, 1, ())).bind fun (y30, y31, _) => 
  (bif (y31 : Int) == 0 then 
  (espalierref_SameBag n (y24, y30, ())).bind fun (y32, _) => some (y32, ())
  else some (false, ())))))
  else 
  (bag_Join n (y5, a3, 1, ())).bind fun (y33, y34, _) => 
  (bag_Join n (a1, a3, 1, ())).bind fun (y35, y36, _) => 
  (bag_Join n (a2, a3, 1, ())).bind fun (y37, y38, _) => 
  (bif (((y34 : Int) != 0) || ((y36 : Int) != 0)) || ((y38 : Int) != 0) then some (true, ())
  else 
  (bag_Add n (y35, y37, 1, ())).bind fun (y39, y40, _) => 
  (bif (y40 : Int) == 0 then 
  (espalierref_SameBag n (y33, y39, ())).bind fun (y41, _) => some (y41, ())
  else some (false, ())))))))

/-- a round of a loop of guest.Check -/
noncomputable def guest_Check_s0 {ρ : Type} (n : Nat) (rec : Int × (List (List Ev.Cnt)) × Int × Int × (Ev.Guest × Unit) × Unit → Option ρ) (kx : Int × (Ev.Guest × Unit) × Unit → Option ρ) (kr : Int × Unit → Option ρ) : Int × (List (List Ev.Cnt)) × Int × Int × (Ev.Guest × Unit) × Unit → Option ρ :=
  fun (v2, v3, v4, v5, o6, _) => 
  (bif decide ((v5 : Int) < v4) then 
  (ix v3 v5).bind fun x7 => 
  (bag_Check n (x7, ())).bind fun (y8, _) => 
  (bif (y8 : Int) != 0 then kr (y8, ())
  else 
  (bif ((x7.length : Int) : Int) == 0 then kr (6, ())
  else rec (IntKind.wrap .i64 (v2 + (x7.length : Int)), v3, v4, IntKind.wrap .i64 (v5 + 1), ((Ev.Guest.mk o6.1.view o6.1.queue o6.1.fresh o6.1.at_), ()), ())))
  else kx (v2, ((Ev.Guest.mk o6.1.view o6.1.queue o6.1.fresh o6.1.at_), ()), ()))

noncomputable def F_guest_Check_s0 {ρ : Type} (n : Nat) (kr : Int × Unit → Option ρ) : Int → ((List Ev.Cnt)) → (Int × (Ev.Guest × Unit) × Unit) → ((Int × (Ev.Guest × Unit) × Unit) → Option ρ) → Option ρ :=
  fun v5 x7 (v2, o6, _) rec =>  
  (bag_Check n (x7, ())).bind fun (y8, _) => 
  (bif (y8 : Int) != 0 then kr (y8, ())
  else 
  (bif ((x7.length : Int) : Int) == 0 then kr (6, ())
  else rec (IntKind.wrap .i64 (v2 + (x7.length : Int)), ((Ev.Guest.mk o6.1.view o6.1.queue o6.1.fresh o6.1.at_), ()), ())))

theorem R_guest_Check_s0 {ρ : Type} (n : Nat) (kx : Int × (Ev.Guest × Unit) × Unit → Option ρ) (kr : Int × Unit → Option ρ) (l : List (List Ev.Cnt)) (fuel : Nat) (v2 : Int) (o6 : Ev.Guest × Unit) (hl : l.length ≤ 9223372036854775807) (hf : l.length < fuel) :
    iterN (fun rc => guest_Check_s0 n rc kx kr) fuel (v2, l, (l.length : Int), 0, o6, ()) = foldK (F_guest_Check_s0 n kr) (fun (v2, o6, _) => kx (v2, ((Ev.Guest.mk o6.1.view o6.1.queue o6.1.fresh o6.1.at_), ()), ())) 0 l (v2, o6, ()) :=
  range_listM l (fun i (v2, o6, _) => (v2, l, (l.length : Int), i, o6, ())) _ _ _ (fun rec i s => rfl) hl fuel (v2, o6, ()) hf

/-- guest.Check -/
noncomputable def guest_Check (n : Nat) : Ev.Guest × Unit → Option (Int × Unit) :=
  fun (a1, _) => 
  (bif (decide ((a1.view : Int) < 0)) || (decide ((a1.at_ : Int) < 0)) then some (9, ())
  else 
  iterN (fun rc12 => guest_Check_s0 n rc12 (fun (v9, o10, _) => 
  (bif decide ((v9 : Int) > 40) then some (2, ())
  else 
  (bif o10.1.fresh && (decide ((v9 : Int) > 0)) then some (6, ())
  else some (0, ())))) (fun (v11, _) => some (v11, ()))) (n) (0, a1.queue, (a1.queue.length : Int), 0, ((Ev.Guest.mk a1.view a1.queue a1.fresh a1.at_), ()), ()))

/-- a round of a loop of guest.own -/
noncomputable def guest_own_s0 {ρ : Type} (n : Nat) (rec : (List Ev.Cnt) × Int × Int × (List Ev.Cnt) × Unit → Option ρ) (kx : (List Ev.Cnt) × Unit → Option ρ) (kr : Unit → Option ρ) : (List Ev.Cnt) × Int × Int × (List Ev.Cnt) × Unit → Option ρ :=
  fun (v2, v3, v4, o5, _) => 
  (bif decide ((v4 : Int) < v3) then 
  (ix v2 v4).bind fun x6 => 
  (bag_CopyRow n (x6.r, ())).bind fun (y7, _) => 
  ck (room (o5 ++ ([(Ev.Cnt.mk y7 x6.n)] : List Ev.Cnt)).length 32) (rec (v2, v3, IntKind.wrap .i64 (v4 + 1), o5 ++ ([(Ev.Cnt.mk y7 x6.n)] : List Ev.Cnt), ()))
  else kx (o5, ()))

noncomputable def F_guest_own_s0 {ρ : Type} (n : Nat) (kr : Unit → Option ρ) : Int → Ev.Cnt → ((List Ev.Cnt) × Unit) → (((List Ev.Cnt) × Unit) → Option ρ) → Option ρ :=
  fun v4 x6 (o5, _) rec =>  
  (bag_CopyRow n (x6.r, ())).bind fun (y7, _) => 
  ck (room (o5 ++ ([(Ev.Cnt.mk y7 x6.n)] : List Ev.Cnt)).length 32) (rec (o5 ++ ([(Ev.Cnt.mk y7 x6.n)] : List Ev.Cnt), ()))

theorem R_guest_own_s0 {ρ : Type} (n : Nat) (kx : (List Ev.Cnt) × Unit → Option ρ) (kr : Unit → Option ρ) (l : List Ev.Cnt) (fuel : Nat) (o5 : List Ev.Cnt) (hl : l.length ≤ 9223372036854775807) (hf : l.length < fuel) :
    iterN (fun rc => guest_own_s0 n rc kx kr) fuel (l, (l.length : Int), 0, o5, ()) = foldK (F_guest_own_s0 n kr) (fun (o5, _) => kx (o5, ())) 0 l (o5, ()) :=
  range_listM l (fun i (o5, _) => (l, (l.length : Int), i, o5, ())) _ _ _ (fun rec i s => rfl) hl fuel (o5, ()) hf

/-- guest.own -/
noncomputable def guest_own (n : Nat) : (List Ev.Cnt) × Unit → Option ((List Ev.Cnt) × Unit) :=
  fun (a1, _) => 
  iterN (fun rc9 => guest_own_s0 n rc9 (fun (o8, _) => some (o8, ())) (fun (_) => none)) (n) (a1, (a1.length : Int), 0, ([] : List Ev.Cnt), ())

/-- guest.Tell$1 -/
noncomputable def guest_Tell_1 (n : Nat) : (List Ev.Cnt) × (Int × Unit) × Unit × (List (List Ev.Cnt)) × Unit → Option ((Int × Unit) × Unit × (List (List Ev.Cnt)) × Unit) :=
  fun (a1, o2, o3, o4, _) => 
  (guest_own n (a1, ())).bind fun (y6, _) => 
  ck (room (o4 ++ ([y6] : List (List Ev.Cnt))).length 24) (some ((IntKind.wrap .i64 (o2.1 + (a1.length : Int)), ()), (()), o4 ++ ([y6] : List (List Ev.Cnt)), ()))

/-- a round of a loop of guest.Tell -/
noncomputable def guest_Tell_s0 {ρ : Type} (n : Nat) (rec : (List Ev.Cnt) × (List (List Ev.Cnt)) × Int × Int × (Ev.Guest × Unit) × (Ev.Guest × Unit) × (Int × Unit) × Unit × (List (List Ev.Cnt)) × Unit → Option ρ) (kx : (List Ev.Cnt) × (Ev.Guest × Unit) × (Ev.Guest × Unit) × (Int × Unit) × Unit × (List (List Ev.Cnt)) × Unit → Option ρ) (kr : Unit → Option ρ) : (List Ev.Cnt) × (List (List Ev.Cnt)) × Int × Int × (Ev.Guest × Unit) × (Ev.Guest × Unit) × (Int × Unit) × Unit × (List (List Ev.Cnt)) × Unit → Option ρ :=
  fun (v5, v6, v7, v8, o9, o10, o11, o12, o13, _) => 
  (bif decide ((v8 : Int) < v7) then 
  (ix v6 v8).bind fun x14 => 
  (guest_Tell_1 n (x14, (o11.1, ()), (()), o13, ())).bind fun (o15, o16, o17, _) => rec (v5, v6, v7, IntKind.wrap .i64 (v8 + 1), ((Ev.Guest.mk o9.1.view o9.1.queue o9.1.fresh o9.1.at_), ()), ((Ev.Guest.mk o10.1.view o10.1.queue o10.1.fresh o10.1.at_), ()), (o15.1, ()), (()), o17, ())
  else kx (v5, ((Ev.Guest.mk o9.1.view o9.1.queue o9.1.fresh o9.1.at_), ()), ((Ev.Guest.mk o10.1.view o10.1.queue o10.1.fresh o10.1.at_), ()), (o11.1, ()), (()), o13, ()))

noncomputable def F_guest_Tell_s0 {ρ : Type} (n : Nat) (kr : Unit → Option ρ) : Int → ((List Ev.Cnt)) → ((List Ev.Cnt) × (Ev.Guest × Unit) × (Ev.Guest × Unit) × (Int × Unit) × Unit × (List (List Ev.Cnt)) × Unit) → (((List Ev.Cnt) × (Ev.Guest × Unit) × (Ev.Guest × Unit) × (Int × Unit) × Unit × (List (List Ev.Cnt)) × Unit) → Option ρ) → Option ρ :=
  fun v8 x14 (v5, o9, o10, o11, o12, o13, _) rec =>  
  (guest_Tell_1 n (x14, (o11.1, ()), (()), o13, ())).bind fun (o15, o16, o17, _) => rec (v5, ((Ev.Guest.mk o9.1.view o9.1.queue o9.1.fresh o9.1.at_), ()), ((Ev.Guest.mk o10.1.view o10.1.queue o10.1.fresh o10.1.at_), ()), (o15.1, ()), (()), o17, ())

theorem R_guest_Tell_s0 {ρ : Type} (n : Nat) (kx : (List Ev.Cnt) × (Ev.Guest × Unit) × (Ev.Guest × Unit) × (Int × Unit) × Unit × (List (List Ev.Cnt)) × Unit → Option ρ) (kr : Unit → Option ρ) (l : List (List Ev.Cnt)) (fuel : Nat) (v5 : List Ev.Cnt) (o9 : Ev.Guest × Unit) (o10 : Ev.Guest × Unit) (o11 : Int × Unit) (o12 : Unit) (o13 : List (List Ev.Cnt)) (hl : l.length ≤ 9223372036854775807) (hf : l.length < fuel) :
    iterN (fun rc => guest_Tell_s0 n rc kx kr) fuel (v5, l, (l.length : Int), 0, o9, o10, o11, o12, o13, ()) = foldK (F_guest_Tell_s0 n kr) (fun (v5, o9, o10, o11, o12, o13, _) => kx (v5, ((Ev.Guest.mk o9.1.view o9.1.queue o9.1.fresh o9.1.at_), ()), ((Ev.Guest.mk o10.1.view o10.1.queue o10.1.fresh o10.1.at_), ()), (o11.1, ()), (()), o13, ())) 0 l (v5, o9, o10, o11, o12, o13, ()) :=
  range_listM l (fun i (v5, o9, o10, o11, o12, o13, _) => (v5, l, (l.length : Int), i, o9, o10, o11, o12, o13, ())) _ _ _ (fun rec i s => rfl) hl fuel (v5, o9, o10, o11, o12, o13, ()) hf

/-- guest.Tell -/
noncomputable def guest_Tell (n : Nat) : Ev.Guest × (List Ev.Cnt) × Unit → Option (Ev.Guest × Int × Unit) :=
  fun (a1, a2, _) => 
  (guest_Check n ((Ev.Guest.mk a1.view a1.queue a1.fresh a1.at_), ())).bind fun (y3, _) => 
  (bif (y3 : Int) != 0 then some ((Ev.Guest.mk 0 ([] : List (List Ev.Cnt)) false 0), y3, ())
  else 
  (bag_Check n (a2, ())).bind fun (y4, _) => 
  (bif (y4 : Int) != 0 then some ((Ev.Guest.mk 0 ([] : List (List Ev.Cnt)) false 0), y4, ())
  else 
  iterN (fun rc27 => guest_Tell_s0 n rc27 (fun (v18, o19, o20, o21, o22, o23, _) => 
  (bif (!o19.1.fresh) && (decide (((v18.length : Int) : Int) > 0)) then 
  (guest_Tell_1 n (v18, (o21.1, ()), (()), o23, ())).bind fun (o24, o25, o26, _) => 
  (bif decide ((o24.1 : Int) > 40) then some ((Ev.Guest.mk o19.1.view ([] : List (List Ev.Cnt)) true o19.1.at_), 0, ())
  else some ((Ev.Guest.mk o19.1.view o26 o19.1.fresh o19.1.at_), 0, ()))
  else 
  (bif decide ((o21.1 : Int) > 40) then some ((Ev.Guest.mk o19.1.view ([] : List (List Ev.Cnt)) true o19.1.at_), 0, ())
  else some ((Ev.Guest.mk o19.1.view o23 o19.1.fresh o19.1.at_), 0, ())))) (fun (_) => none)) (n) (a2, a1.queue, (a1.queue.length : Int), 0, ((Ev.Guest.mk a1.view a1.queue a1.fresh a1.at_), ()), ((Ev.Guest.mk 0 ([] : List (List Ev.Cnt)) false 0), ()), (0, ()), (()), ([] : List (List Ev.Cnt)), ())))

/-- slices.Clone   api.Count,api.Count  -/
noncomputable def slices_Clone_api_Count_api_Count : (List Ev.Cnt) × Unit → Option ((List Ev.Cnt) × Unit) :=
  fun (a1, _) => 
  nilq a1 (some (([] : List Ev.Cnt), ())) (
  ck (room (([] : List Ev.Cnt) ++ a1).length 32) (some (([] : List Ev.Cnt) ++ a1, ())))

/-- a round of a loop of guest.Take -/
noncomputable def guest_Take_s0 {ρ : Type} (n : Nat) (rec : (List (List Ev.Cnt)) × Int × Int × (Ev.Guest × Unit) × (List Ev.Cnt) × Unit → Option ρ) (kx : (Ev.Guest × Unit) × (List Ev.Cnt) × Unit → Option ρ) (kr : Unit → Option ρ) : (List (List Ev.Cnt)) × Int × Int × (Ev.Guest × Unit) × (List Ev.Cnt) × Unit → Option ρ :=
  fun (v7, v8, v9, o10, o11, _) => 
  (bif decide ((v9 : Int) < v8) then 
  (ix v7 v9).bind fun x12 => 
  ck (room (o11 ++ x12).length 32) (rec (v7, v8, IntKind.wrap .i64 (v9 + 1), ((Ev.Guest.mk o10.1.view o10.1.queue o10.1.fresh o10.1.at_), ()), o11 ++ x12, ()))
  else kx (((Ev.Guest.mk o10.1.view o10.1.queue o10.1.fresh o10.1.at_), ()), o11, ()))

noncomputable def F_guest_Take_s0 {ρ : Type} (n : Nat) (kr : Unit → Option ρ) : Int → ((List Ev.Cnt)) → ((Ev.Guest × Unit) × (List Ev.Cnt) × Unit) → (((Ev.Guest × Unit) × (List Ev.Cnt) × Unit) → Option ρ) → Option ρ :=
  fun v9 x12 (o10, o11, _) rec =>  
  ck (room (o11 ++ x12).length 32) (rec (((Ev.Guest.mk o10.1.view o10.1.queue o10.1.fresh o10.1.at_), ()), o11 ++ x12, ()))

theorem R_guest_Take_s0 {ρ : Type} (n : Nat) (kx : (Ev.Guest × Unit) × (List Ev.Cnt) × Unit → Option ρ) (kr : Unit → Option ρ) (l : List (List Ev.Cnt)) (fuel : Nat) (o10 : Ev.Guest × Unit) (o11 : List Ev.Cnt) (hl : l.length ≤ 9223372036854775807) (hf : l.length < fuel) :
    iterN (fun rc => guest_Take_s0 n rc kx kr) fuel (l, (l.length : Int), 0, o10, o11, ()) = foldK (F_guest_Take_s0 n kr) (fun (o10, o11, _) => kx (((Ev.Guest.mk o10.1.view o10.1.queue o10.1.fresh o10.1.at_), ()), o11, ())) 0 l (o10, o11, ()) :=
  range_listM l (fun i (o10, o11, _) => (l, (l.length : Int), i, o10, o11, ())) _ _ _ (fun rec i s => rfl) hl fuel (o10, o11, ()) hf

/-- guest.Take -/
noncomputable def guest_Take (n : Nat) : Ev.Guest × (List Ev.Cnt) × Int × Unit → Option (Ev.Guest × (List Ev.Cnt) × Bool × Int × Unit) :=
  fun (a1, a2, a3, _) => 
  (guest_Check n ((Ev.Guest.mk a1.view a1.queue a1.fresh a1.at_), ())).bind fun (y4, _) => 
  (bif (y4 : Int) != 0 then some ((Ev.Guest.mk 0 ([] : List (List Ev.Cnt)) false 0), ([] : List Ev.Cnt), false, y4, ())
  else 
  (bag_Check n (a2, ())).bind fun (y5, _) => 
  (bif (y5 : Int) != 0 then some ((Ev.Guest.mk 0 ([] : List (List Ev.Cnt)) false 0), ([] : List Ev.Cnt), false, y5, ())
  else 
  (bif decide ((a3 : Int) < a1.at_) then some ((Ev.Guest.mk 0 ([] : List (List Ev.Cnt)) false 0), ([] : List Ev.Cnt), false, 9, ())
  else 
  (bif a1.fresh then 
  (guest_own n (a2, ())).bind fun (y6, _) => some ((Ev.Guest.mk a1.view ([] : List (List Ev.Cnt)) false a3), y6, true, 0, ())
  else 
  iterN (fun rc18 => guest_Take_s0 n rc18 (fun (o13, o14, _) => 
  (slices_Clone_api_Count_api_Count (o14, ())).bind fun (y15, _) => 
  (bag_Gather n (y15, ())).bind fun (y16, _) => 
  (bag_Check n (y16, ())).bind fun (y17, _) => 
  (bif (y17 : Int) != 0 then some ((Ev.Guest.mk 0 ([] : List (List Ev.Cnt)) false 0), ([] : List Ev.Cnt), false, y17, ())
  else some ((Ev.Guest.mk o13.1.view o13.1.queue o13.1.fresh o13.1.at_), y16, false, 0, ()))) (fun (_) => none)) (n) (a1.queue, (a1.queue.length : Int), 0, ((Ev.Guest.mk a1.view ([] : List (List Ev.Cnt)) false a3), ()), ([] : List Ev.Cnt), ())))))

/-- espalierlaw.waits -/
noncomputable def espalierlaw_waits (n : Nat) : Unit → Option (Bool × Unit) :=
  fun (_) => 
  (espalierlaw_num (1, ())).bind fun (y1, _) => 
  (guest_Tell n ((Ev.Guest.mk 0 ([] : List (List Ev.Cnt)) false 0), ([(Ev.Cnt.mk ([(Ev.Val.mk y1.kind y1.n y1.s y1.l)] : List Ev.Val) 1)] : List Ev.Cnt), ())).bind fun (y2, y3, _) => 
  (guest_Tell n ((Ev.Guest.mk y2.view y2.queue y2.fresh y2.at_), ([(Ev.Cnt.mk ([(Ev.Val.mk y1.kind y1.n y1.s y1.l)] : List Ev.Val) 1)] : List Ev.Cnt), ())).bind fun (y4, y5, _) => 
  (guest_Take n ((Ev.Guest.mk y4.view y4.queue y4.fresh y4.at_), ([] : List Ev.Cnt), 3, ())).bind fun (y6, y7, y8, y9, _) => 
  (bif (((((y3 : Int) == 0) && ((y5 : Int) == 0)) && ((y9 : Int) == 0)) && (!y8)) && ((y6.at_ : Int) == 3) then 
  (espalierlaw_num (1, ())).bind fun (y10, _) => 
  (espalierref_SameBag n (y7, ([(Ev.Cnt.mk ([(Ev.Val.mk y10.kind y10.n y10.s y10.l)] : List Ev.Val) 2)] : List Ev.Cnt), ())).bind fun (y11, _) => some (y11, ())
  else some (false, ()))

/-- a round of a loop of espalierlaw.GuestSums -/
noncomputable def espalierlaw_GuestSums_s0 {ρ : Type} (n : Nat) (rec : (List Bool) × (List Ev.Cnt) × (List Ev.Cnt) × (List (List Ev.Cnt)) × Int × Int × (Ev.Guest × Unit) × Unit → Option ρ) (kx : Unit → Option ρ) (kr : Bool × Unit → Option ρ) : (List Bool) × (List Ev.Cnt) × (List Ev.Cnt) × (List (List Ev.Cnt)) × Int × Int × (Ev.Guest × Unit) × Unit → Option ρ :=
  fun (v4, v5, v6, v7, v8, v9, o10, _) => 
  (bif decide ((v9 : Int) < v8) then 
  (ix v7 v9).bind fun x11 => 
  (bag_Add n (v6, x11, 1, ())).bind fun (y12, y13, _) => 
  (bif (y13 : Int) != 0 then rec (v4, v5, v6, v7, v8, IntKind.wrap .i64 (v9 + 1), ((Ev.Guest.mk o10.1.view o10.1.queue o10.1.fresh o10.1.at_), ()), ())
  else 
  (guest_Tell n ((Ev.Guest.mk o10.1.view o10.1.queue o10.1.fresh o10.1.at_), x11, ())).bind fun (y14, y15, _) => 
  (bif (y15 : Int) != 0 then kr (false, ())
  else 
  (bif decide ((v9 : Int) ≥ (v4.length : Int)) then rec (v4, v5, y12, v7, v8, IntKind.wrap .i64 (v9 + 1), ((Ev.Guest.mk y14.view y14.queue y14.fresh y14.at_), ()), ())
  else 
  (ix v4 v9).bind fun x16 => 
  (bif !x16 then rec (v4, v5, y12, v7, v8, IntKind.wrap .i64 (v9 + 1), ((Ev.Guest.mk y14.view y14.queue y14.fresh y14.at_), ()), ())
  else 
  (guest_Take n ((Ev.Guest.mk y14.view y14.queue y14.fresh y14.at_), y12, v9, ())).bind fun (y17, y18, y19, y20, _) => 
  (bif (y20 : Int) != 0 then kr ((y20 : Int) == 9, ())
  else 
  (bif y19 then 
  (bag_Add n (([] : List Ev.Cnt), y18, 1, ())).bind fun (y21, y22, _) => 
  (bif (y22 : Int) != 0 then kr (false, ())
  else 
  (espalierref_SameBag n (y21, y12, ())).bind fun (y23, _) => 
  (bif !y23 then kr (false, ())
  else rec (v4, y21, y12, v7, v8, IntKind.wrap .i64 (v9 + 1), ((Ev.Guest.mk y17.view y17.queue y17.fresh y17.at_), ()), ())))
  else 
  (bag_Add n (v5, y18, 1, ())).bind fun (y24, y25, _) => 
  (bif (y25 : Int) != 0 then kr (false, ())
  else 
  (espalierref_SameBag n (y24, y12, ())).bind fun (y26, _) => 
  (bif !y26 then kr (false, ())
  else rec (v4, y24, y12, v7, v8, IntKind.wrap .i64 (v9 + 1), ((Ev.Guest.mk y17.view y17.queue y17.fresh y17.at_), ()), ())))))))))
  else kx (()))

noncomputable def F_espalierlaw_GuestSums_s0 {ρ : Type} (n : Nat) (kr : Bool × Unit → Option ρ) : Int → ((List Ev.Cnt)) → ((List Bool) × (List Ev.Cnt) × (List Ev.Cnt) × (Ev.Guest × Unit) × Unit) → (((List Bool) × (List Ev.Cnt) × (List Ev.Cnt) × (Ev.Guest × Unit) × Unit) → Option ρ) → Option ρ :=
  fun v9 x11 (v4, v5, v6, o10, _) rec =>  
  (bag_Add n (v6, x11, 1, ())).bind fun (y12, y13, _) => 
  (bif (y13 : Int) != 0 then rec (v4, v5, v6, ((Ev.Guest.mk o10.1.view o10.1.queue o10.1.fresh o10.1.at_), ()), ())
  else 
  (guest_Tell n ((Ev.Guest.mk o10.1.view o10.1.queue o10.1.fresh o10.1.at_), x11, ())).bind fun (y14, y15, _) => 
  (bif (y15 : Int) != 0 then kr (false, ())
  else 
  (bif decide ((v9 : Int) ≥ (v4.length : Int)) then rec (v4, v5, y12, ((Ev.Guest.mk y14.view y14.queue y14.fresh y14.at_), ()), ())
  else 
  (ix v4 v9).bind fun x16 => 
  (bif !x16 then rec (v4, v5, y12, ((Ev.Guest.mk y14.view y14.queue y14.fresh y14.at_), ()), ())
  else 
  (guest_Take n ((Ev.Guest.mk y14.view y14.queue y14.fresh y14.at_), y12, v9, ())).bind fun (y17, y18, y19, y20, _) => 
  (bif (y20 : Int) != 0 then kr ((y20 : Int) == 9, ())
  else 
  (bif y19 then 
  (bag_Add n (([] : List Ev.Cnt), y18, 1, ())).bind fun (y21, y22, _) => 
  (bif (y22 : Int) != 0 then kr (false, ())
  else 
  (espalierref_SameBag n (y21, y12, ())).bind fun (y23, _) => 
  (bif !y23 then kr (false, ())
  else rec (v4, y21, y12, ((Ev.Guest.mk y17.view y17.queue y17.fresh y17.at_), ()), ())))
  else 
  (bag_Add n (v5, y18, 1, ())).bind fun (y24, y25, _) => 
  (bif (y25 : Int) != 0 then kr (false, ())
  else 
  (espalierref_SameBag n (y24, y12, ())).bind fun (y26, _) => 
  (bif !y26 then kr (false, ())
  else rec (v4, y24, y12, ((Ev.Guest.mk y17.view y17.queue y17.fresh y17.at_), ()), ())))))))))

theorem R_espalierlaw_GuestSums_s0 {ρ : Type} (n : Nat) (kx : Unit → Option ρ) (kr : Bool × Unit → Option ρ) (l : List (List Ev.Cnt)) (fuel : Nat) (v4 : List Bool) (v5 : List Ev.Cnt) (v6 : List Ev.Cnt) (o10 : Ev.Guest × Unit) (hl : l.length ≤ 9223372036854775807) (hf : l.length < fuel) :
    iterN (fun rc => espalierlaw_GuestSums_s0 n rc kx kr) fuel (v4, v5, v6, l, (l.length : Int), 0, o10, ()) = foldK (F_espalierlaw_GuestSums_s0 n kr) (fun (v4, v5, v6, o10, _) => kx (())) 0 l (v4, v5, v6, o10, ()) :=
  range_listM l (fun i (v4, v5, v6, o10, _) => (v4, v5, v6, l, (l.length : Int), i, o10, ())) _ _ _ (fun rec i s => rfl) hl fuel (v4, v5, v6, o10, ()) hf

/-- espalierlaw.GuestSums -/
noncomputable def espalierlaw_GuestSums (n : Nat) : (List (List Ev.Cnt)) × (List Bool) × Unit → Option (Bool × Unit) :=
  fun (a1, a2, _) => 
  (bif decide (((a1.length : Int) : Int) > 12) then 
  (lsl a1 0 12).bind fun l3 => 
  iterN (fun rc29 => espalierlaw_GuestSums_s0 n rc29 (fun (_) => 
  (espalierlaw_waits n (())).bind fun (y28, _) => some (y28, ())) (fun (v27, _) => some (v27, ()))) (n) (a2, ([] : List Ev.Cnt), ([] : List Ev.Cnt), l3, (l3.length : Int), 0, ((Ev.Guest.mk 0 ([] : List (List Ev.Cnt)) false 0), ()), ())
  else 
  iterN (fun rc32 => espalierlaw_GuestSums_s0 n rc32 (fun (_) => 
  (espalierlaw_waits n (())).bind fun (y31, _) => some (y31, ())) (fun (v30, _) => some (v30, ()))) (n) (a2, ([] : List Ev.Cnt), ([] : List Ev.Cnt), a1, (a1.length : Int), 0, ((Ev.Guest.mk 0 ([] : List (List Ev.Cnt)) false 0), ()), ()))

end Pure

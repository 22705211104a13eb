/- Plain functions that compute what functions of the program compute (written by gen.py). -/
import Derived.Test.YtheaknjhanchbaaDoorEvLib
import Derived.Test.YtheaknjhanchbaaDoorPRange
import Derived.Test.YtheaknjhanchbaaDoorEvStab
namespace Pure
open Esp Ev Go
set_option linter.unusedSimpArgs false
set_option linter.unusedVariables false

/-- a round of a loop of value.check -/
noncomputable def value_check_s1 {ρ : Type} (self_value_check : Ev.Val × Int × Unit → Option (Int × Unit)) (n : Nat) (rec : Int × (List Ev.Val) × Int × Int × (Ev.Val × Unit) × Unit → Option ρ) (kx : (Ev.Val × Unit) × Unit → Option ρ) (kr : Int × Unit → Option ρ) : Int × (List Ev.Val) × Int × Int × (Ev.Val × Unit) × Unit → Option ρ :=
  fun (v4, v5, v6, v7, o8, _) => 
  (bif decide ((v7 : Int) < v6) then 
  (ix v5 v7).bind fun x9 => 
  (self_value_check ((Ev.Val.mk x9.kind x9.n x9.s x9.l), IntKind.wrap .i64 (v4 + 1), ())).bind fun (y10, _) => 
  (bif (y10 : Int) != 0 then kr (y10, ())
  else rec (v4, v5, v6, IntKind.wrap .i64 (v7 + 1), ((Ev.Val.mk o8.1.kind o8.1.n o8.1.s o8.1.l), ()), ()))
  else kx (((Ev.Val.mk o8.1.kind o8.1.n o8.1.s o8.1.l), ()), ()))

noncomputable def F_value_check_s1 {ρ : Type} (self_value_check : Ev.Val × Int × Unit → Option (Int × Unit)) (n : Nat) (kr : Int × Unit → Option ρ) : Int → Ev.Val → (Int × (Ev.Val × Unit) × Unit) → ((Int × (Ev.Val × Unit) × Unit) → Option ρ) → Option ρ :=
  fun v7 x9 (v4, o8, _) rec =>  
  (self_value_check ((Ev.Val.mk x9.kind x9.n x9.s x9.l), IntKind.wrap .i64 (v4 + 1), ())).bind fun (y10, _) => 
  (bif (y10 : Int) != 0 then kr (y10, ())
  else rec (v4, ((Ev.Val.mk o8.1.kind o8.1.n o8.1.s o8.1.l), ()), ()))

theorem R_value_check_s1 {ρ : Type} (self_value_check : Ev.Val × Int × Unit → Option (Int × Unit)) (n : Nat) (kx : (Ev.Val × Unit) × Unit → Option ρ) (kr : Int × Unit → Option ρ) (l : List Ev.Val) (fuel : Nat) (v4 : Int) (o8 : Ev.Val × Unit) (hl : l.length ≤ 9223372036854775807) (hf : l.length < fuel) :
    iterN (fun rc => value_check_s1 self_value_check n rc kx kr) fuel (v4, l, (l.length : Int), 0, o8, ()) = foldK (F_value_check_s1 self_value_check n kr) (fun (v4, o8, _) => kx (((Ev.Val.mk o8.1.kind o8.1.n o8.1.s o8.1.l), ()), ())) 0 l (v4, o8, ()) :=
  range_listM l (fun i (v4, o8, _) => (v4, l, (l.length : Int), i, o8, ())) _ _ _ (fun rec i s => rfl) hl fuel (v4, o8, ()) hf

/-- value.check -/
noncomputable def value_check_b (self_value_check : Ev.Val × Int × Unit → Option (Int × Unit)) (n : Nat) : Ev.Val × Int × Unit → Option (Int × Unit) :=
  fun (a1, a2, _) => 
  (bif (a1.kind : Int) == 0 then 
  (bif !((((a1.n : Int) == 0) && (seq a1.s (⟨#[]⟩ : ByteArray))) && (((a1.l.length : Int) : Int) == 0)) then some (6, ())
  else some (0, ()))
  else 
  (bif (a1.kind : Int) == 1 then 
  (bif !(((((a1.n : Int) == 0) || ((a1.n : Int) == 1)) && (seq a1.s (⟨#[]⟩ : ByteArray))) && (((a1.l.length : Int) : Int) == 0)) then some (6, ())
  else some (0, ()))
  else 
  (bif (a1.kind : Int) == 2 then 
  (bif !((seq a1.s (⟨#[]⟩ : ByteArray)) && (((a1.l.length : Int) : Int) == 0)) then some (6, ())
  else some (0, ()))
  else 
  (bif (a1.kind : Int) == 3 then 
  (bif decide (((a1.s.size : Int) : Int) > 4000) then some (2, ())
  else 
  (bif (a1.n : Int) == 0 then 
  (validN (a1.s, ())).bind fun (y3, _) => 
  (bif !(y3 && (((a1.l.length : Int) : Int) == 0)) then some (6, ())
  else some (0, ()))
  else some (6, ())))
  else 
  (bif (a1.kind : Int) == 4 then 
  (bif (decide (((a1.l.length : Int) : Int) > 30)) || (decide ((a2 : Int) > 6)) then some (2, ())
  else 
  iterN (fun rc13 => value_check_s1 self_value_check n rc13 (fun (o11, _) => 
  (bif !(((o11.1.n : Int) == 0) && (seq o11.1.s (⟨#[]⟩ : ByteArray))) then some (6, ())
  else some (0, ()))) (fun (v12, _) => some (v12, ()))) (n) (a2, a1.l, (a1.l.length : Int), 0, ((Ev.Val.mk a1.kind a1.n a1.s a1.l), ()), ()))
  else some (6, ()))))))

noncomputable def value_check : Nat → Ev.Val × Int × Unit → Option (Int × Unit)
  | 0, _ => none
  | n + 1, x => value_check_b (value_check n) n x

/-- value.Check -/
noncomputable def value_Check (n : Nat) : Ev.Val × Unit → Option (Int × Unit) :=
  fun (a1, _) => 
  (value_check n ((Ev.Val.mk a1.kind a1.n a1.s a1.l), 1, ())).bind fun (y2, _) => some (y2, ())

/-- cmp.isNaN int  -/
noncomputable def cmp_isNaN_int : Int × Unit → Option (Bool × Unit) :=
  fun (a1, _) => some ((a1 : Int) != a1, ())

/-- cmp.Compare int  -/
noncomputable def cmp_Compare_int : Int × Int × Unit → Option (Int × Unit) :=
  fun (a1, a2, _) => 
  (cmp_isNaN_int (a1, ())).bind fun (y3, _) => 
  (cmp_isNaN_int (a2, ())).bind fun (y4, _) => 
  (bif y3 then 
  (bif y4 then some (0, ())
  else some ((-1), ()))
  else 
  (bif y4 then some (1, ())
  else 
  (bif decide ((a1 : Int) < a2) then some ((-1), ())
  else 
  (bif decide ((a1 : Int) > a2) then some (1, ())
  else some (0, ())))))

/-- cmp.isNaN string  -/
noncomputable def cmp_isNaN_string : ByteArray × Unit → Option (Bool × Unit) :=
  fun (a1, _) => some (!(seq a1 a1), ())

/-- cmp.Compare string  -/
noncomputable def cmp_Compare_string : ByteArray × ByteArray × Unit → Option (Int × Unit) :=
  fun (a1, a2, _) => 
  (cmp_isNaN_string (a1, ())).bind fun (y3, _) => 
  (cmp_isNaN_string (a2, ())).bind fun (y4, _) => 
  (bif y3 then 
  (bif y4 then some (0, ())
  else some ((-1), ()))
  else 
  (bif y4 then some (1, ())
  else 
  (bif sless a1 a2 then some ((-1), ())
  else 
  (bif !(sless a1 a2 || seq a1 a2) then some (1, ())
  else some (0, ())))))

/-- a round of a loop of slices.CompareFunc   api.Value,  api.Value,api.Value,api.Value  -/
noncomputable def sl_CompareFunc_V_V_V_V_value_Order_s0 {ρ : Type} (self_value_Order : Ev.Val × Ev.Val × Unit → Option (Int × Unit)) (n : Nat) (rec : (List Ev.Val) × (List Ev.Val) × (List Ev.Val) × Int × Int × Unit → Option ρ) (kx : (List Ev.Val) × (List Ev.Val) × Unit → Option ρ) (kr : Int × Unit → Option ρ) : (List Ev.Val) × (List Ev.Val) × (List Ev.Val) × Int × Int × Unit → Option ρ :=
  fun (v3, v4, v5, v6, v7, _) => 
  (bif decide ((v7 : Int) < v6) then 
  (ix v5 v7).bind fun x8 => 
  (bif decide ((v7 : Int) ≥ (v4.length : Int)) then kr (1, ())
  else 
  (ix v4 v7).bind fun x9 => 
  (self_value_Order ((Ev.Val.mk x8.kind x8.n x8.s x8.l), (Ev.Val.mk x9.kind x9.n x9.s x9.l), ())).bind fun (y10, _) => 
  (bif (y10 : Int) != 0 then kr (y10, ())
  else rec (v3, v4, v5, v6, IntKind.wrap .i64 (v7 + 1), ())))
  else kx (v3, v4, ()))

noncomputable def F_sl_CompareFunc_V_V_V_V_value_Order_s0 {ρ : Type} (self_value_Order : Ev.Val × Ev.Val × Unit → Option (Int × Unit)) (n : Nat) (kr : Int × Unit → Option ρ) : Int → Ev.Val → ((List Ev.Val) × (List Ev.Val) × Unit) → (((List Ev.Val) × (List Ev.Val) × Unit) → Option ρ) → Option ρ :=
  fun v7 x8 (v3, v4, _) rec =>  
  (bif decide ((v7 : Int) ≥ (v4.length : Int)) then kr (1, ())
  else 
  (ix v4 v7).bind fun x9 => 
  (self_value_Order ((Ev.Val.mk x8.kind x8.n x8.s x8.l), (Ev.Val.mk x9.kind x9.n x9.s x9.l), ())).bind fun (y10, _) => 
  (bif (y10 : Int) != 0 then kr (y10, ())
  else rec (v3, v4, ())))

theorem R_sl_CompareFunc_V_V_V_V_value_Order_s0 {ρ : Type} (self_value_Order : Ev.Val × Ev.Val × Unit → Option (Int × Unit)) (n : Nat) (kx : (List Ev.Val) × (List Ev.Val) × Unit → Option ρ) (kr : Int × Unit → Option ρ) (l : List Ev.Val) (fuel : Nat) (v3 : List Ev.Val) (v4 : List Ev.Val) (hl : l.length ≤ 9223372036854775807) (hf : l.length < fuel) :
    iterN (fun rc => sl_CompareFunc_V_V_V_V_value_Order_s0 self_value_Order n rc kx kr) fuel (v3, v4, l, (l.length : Int), 0, ()) = foldK (F_sl_CompareFunc_V_V_V_V_value_Order_s0 self_value_Order n kr) (fun (v3, v4, _) => kx (v3, v4, ())) 0 l (v3, v4, ()) :=
  range_listM l (fun i (v3, v4, _) => (v3, v4, l, (l.length : Int), i, ())) _ _ _ (fun rec i s => rfl) hl fuel (v3, v4, ()) hf

/-- slices.CompareFunc   api.Value,  api.Value,api.Value,api.Value  -/
noncomputable def sl_CompareFunc_V_V_V_V_value_Order (self_value_Order : Ev.Val × Ev.Val × Unit → Option (Int × Unit)) (n : Nat) : (List Ev.Val) × (List Ev.Val) × Unit → Option (Int × Unit) :=
  fun (a1, a2, _) => 
  iterN (fun rc14 => sl_CompareFunc_V_V_V_V_value_Order_s0 self_value_Order n rc14 (fun (v11, v12, _) => 
  (bif decide (((v11.length : Int) : Int) < (v12.length : Int)) then some ((-1), ())
  else some (0, ()))) (fun (v13, _) => some (v13, ()))) (n) (a1, a2, a1, (a1.length : Int), 0, ())

/-- a round of a loop of cmp.Or int  -/
noncomputable def cmp_Or_int_s0 {ρ : Type} (n : Nat) (rec : Int × (List Int) × Int × Int × Unit → Option ρ) (kx : Int × Unit → Option ρ) (kr : Int × Unit → Option ρ) : Int × (List Int) × Int × Int × Unit → Option ρ :=
  fun (v2, v3, v4, v5, _) => 
  (bif decide ((v5 : Int) < v4) then 
  (ix v3 v5).bind fun x6 => 
  (bif (x6 : Int) != v2 then kr (x6, ())
  else rec (v2, v3, v4, IntKind.wrap .i64 (v5 + 1), ()))
  else kx (v2, ()))

noncomputable def F_cmp_Or_int_s0 {ρ : Type} (n : Nat) (kr : Int × Unit → Option ρ) : Int → Int → (Int × Unit) → ((Int × Unit) → Option ρ) → Option ρ :=
  fun v5 x6 (v2, _) rec =>  
  (bif (x6 : Int) != v2 then kr (x6, ())
  else rec (v2, ()))

theorem R_cmp_Or_int_s0 {ρ : Type} (n : Nat) (kx : Int × Unit → Option ρ) (kr : Int × Unit → Option ρ) (l : List Int) (fuel : Nat) (v2 : Int) (hl : l.length ≤ 9223372036854775807) (hf : l.length < fuel) :
    iterN (fun rc => cmp_Or_int_s0 n rc kx kr) fuel (v2, l, (l.length : Int), 0, ()) = foldK (F_cmp_Or_int_s0 n kr) (fun (v2, _) => kx (v2, ())) 0 l (v2, ()) :=
  range_listM l (fun i (v2, _) => (v2, l, (l.length : Int), i, ())) _ _ _ (fun rec i s => rfl) hl fuel (v2, ()) hf

/-- cmp.Or int  -/
noncomputable def cmp_Or_int (n : Nat) : (List Int) × Unit → Option (Int × Unit) :=
  fun (a1, _) => 
  iterN (fun rc9 => cmp_Or_int_s0 n rc9 (fun (v7, _) => some (v7, ())) (fun (v8, _) => some (v8, ()))) (n) (0, a1, (a1.length : Int), 0, ())

/-- value.Order -/
noncomputable def value_Order_b (self_value_Order : Ev.Val × Ev.Val × Unit → Option (Int × Unit)) (n : Nat) : Ev.Val × Ev.Val × Unit → Option (Int × Unit) :=
  fun (a1, a2, _) => 
  (cmp_Compare_int (a1.kind, a2.kind, ())).bind fun (y3, _) => 
  (bif (y3 : Int) != 0 then some (y3, ())
  else 
  (cmp_Compare_int (a1.n, a2.n, ())).bind fun (y4, _) => 
  (cmp_Compare_string (a1.s, a2.s, ())).bind fun (y5, _) => 
  (sl_CompareFunc_V_V_V_V_value_Order self_value_Order n (a1.l, a2.l, ())).bind fun (y6, _) => 
  (cmp_Or_int n (([y4, y5, y6] : List Int), ())).bind fun (y7, _) => some (y7, ()))

noncomputable def value_Order : Nat → Ev.Val × Ev.Val × Unit → Option (Int × Unit)
  | 0, _ => none
  | n + 1, x => value_Order_b (value_Order n) n x

/-- a round of a loop of slices.CompareFunc api.Row,api.Row,api.Value,api.Value  -/
noncomputable def sl_CompareFunc_W_W_V_V_value_Order_s0 {ρ : Type} (n : Nat) (rec : (List Ev.Val) × (List Ev.Val) × (List Ev.Val) × Int × Int × Unit → Option ρ) (kx : (List Ev.Val) × (List Ev.Val) × Unit → Option ρ) (kr : Int × Unit → Option ρ) : (List Ev.Val) × (List Ev.Val) × (List Ev.Val) × Int × Int × Unit → Option ρ :=
  fun (v3, v4, v5, v6, v7, _) => 
  (bif decide ((v7 : Int) < v6) then 
  (ix v5 v7).bind fun x8 => 
  (bif decide ((v7 : Int) ≥ (v4.length : Int)) then kr (1, ())
  else 
  (ix v4 v7).bind fun x9 => 
  (value_Order n ((Ev.Val.mk x8.kind x8.n x8.s x8.l), (Ev.Val.mk x9.kind x9.n x9.s x9.l), ())).bind fun (y10, _) => 
  (bif (y10 : Int) != 0 then kr (y10, ())
  else rec (v3, v4, v5, v6, IntKind.wrap .i64 (v7 + 1), ())))
  else kx (v3, v4, ()))

noncomputable def F_sl_CompareFunc_W_W_V_V_value_Order_s0 {ρ : Type} (n : Nat) (kr : Int × Unit → Option ρ) : Int → Ev.Val → ((List Ev.Val) × (List Ev.Val) × Unit) → (((List Ev.Val) × (List Ev.Val) × Unit) → Option ρ) → Option ρ :=
  fun v7 x8 (v3, v4, _) rec =>  
  (bif decide ((v7 : Int) ≥ (v4.length : Int)) then kr (1, ())
  else 
  (ix v4 v7).bind fun x9 => 
  (value_Order n ((Ev.Val.mk x8.kind x8.n x8.s x8.l), (Ev.Val.mk x9.kind x9.n x9.s x9.l), ())).bind fun (y10, _) => 
  (bif (y10 : Int) != 0 then kr (y10, ())
  else rec (v3, v4, ())))

theorem R_sl_CompareFunc_W_W_V_V_value_Order_s0 {ρ : Type} (n : Nat) (kx : (List Ev.Val) × (List Ev.Val) × Unit → Option ρ) (kr : Int × Unit → Option ρ) (l : List Ev.Val) (fuel : Nat) (v3 : List Ev.Val) (v4 : List Ev.Val) (hl : l.length ≤ 9223372036854775807) (hf : l.length < fuel) :
    iterN (fun rc => sl_CompareFunc_W_W_V_V_value_Order_s0 n rc kx kr) fuel (v3, v4, l, (l.length : Int), 0, ()) = foldK (F_sl_CompareFunc_W_W_V_V_value_Order_s0 n kr) (fun (v3, v4, _) => kx (v3, v4, ())) 0 l (v3, v4, ()) :=
  range_listM l (fun i (v3, v4, _) => (v3, v4, l, (l.length : Int), i, ())) _ _ _ (fun rec i s => rfl) hl fuel (v3, v4, ()) hf

/-- slices.CompareFunc api.Row,api.Row,api.Value,api.Value  -/
noncomputable def sl_CompareFunc_W_W_V_V_value_Order (n : Nat) : (List Ev.Val) × (List Ev.Val) × Unit → Option (Int × Unit) :=
  fun (a1, a2, _) => 
  iterN (fun rc14 => sl_CompareFunc_W_W_V_V_value_Order_s0 n rc14 (fun (v11, v12, _) => 
  (bif decide (((v11.length : Int) : Int) < (v12.length : Int)) then some ((-1), ())
  else some (0, ()))) (fun (v13, _) => some (v13, ()))) (n) (a1, a2, a1, (a1.length : Int), 0, ())

/-- bag.Compare -/
noncomputable def bag_Compare (n : Nat) : (List Ev.Val) × (List Ev.Val) × Unit → Option (Int × Unit) :=
  fun (a1, a2, _) => 
  (sl_CompareFunc_W_W_V_V_value_Order n (a1, a2, ())).bind fun (y3, _) => some (y3, ())

/-- a round of a loop of bag.Check -/
noncomputable def bag_Check_s2 {ρ : Type} (n : Nat) (rec : (List Ev.Cnt) × Int × (List Ev.Cnt) × Int × Int × (List Ev.Val) × Int × Int × (Ev.Cnt × Unit) × Unit → Option ρ) (kx : (List Ev.Cnt) × Int × (List Ev.Cnt) × Int × Int × (Ev.Cnt × Unit) × Unit → Option ρ) (kr : Int × Unit → Option ρ) : (List Ev.Cnt) × Int × (List Ev.Cnt) × Int × Int × (List Ev.Val) × Int × Int × (Ev.Cnt × Unit) × Unit → Option ρ :=
  fun (v7, v8, v9, v10, v11, v12, v13, v14, o15, _) => 
  (bif decide ((v14 : Int) < v13) then 
  (ix v12 v14).bind fun x16 => 
  (value_Check n ((Ev.Val.mk x16.kind x16.n x16.s x16.l), ())).bind fun (y17, _) => 
  (bif (y17 : Int) != 0 then kr (y17, ())
  else rec (v7, v8, v9, v10, v11, v12, v13, IntKind.wrap .i64 (v14 + 1), ((Ev.Cnt.mk o15.1.r o15.1.n), ()), ()))
  else kx (v7, v8, v9, v10, v11, ((Ev.Cnt.mk o15.1.r o15.1.n), ()), ()))

/-- a round of a loop of bag.Check -/
noncomputable def bag_Check_s0 {ρ : Type} (n : Nat) (rec : (List Ev.Cnt) × (List Ev.Cnt) × Int × Int × Unit → Option ρ) (kx : Unit → Option ρ) (kr : Int × Unit → Option ρ) : (List Ev.Cnt) × (List Ev.Cnt) × Int × Int × Unit → Option ρ :=
  fun (v2, v3, v4, v5, _) => 
  (bif decide ((v5 : Int) < v4) then 
  (ix v3 v5).bind fun x6 => 
  (bif decide (((x6.r.length : Int) : Int) > 30) then kr (2, ())
  else 
  iterN (fun rc27 => bag_Check_s2 n rc27 (fun (v18, v19, v20, v21, v22, o23, _) => 
  (bif (o23.1.n : Int) == 0 then kr (6, ())
  else 
  (bif decide ((v19 : Int) > 0) then 
  (ix v18 (IntKind.wrap .i64 (v19 - 1))).bind fun x25 => 
  (bag_Compare n (x25.r, o23.1.r, ())).bind fun (y26, _) => 
  (bif decide ((y26 : Int) ≥ 0) then kr (6, ())
  else 
  (bif (decide ((o23.1.n : Int) > 1099511627776)) || (decide ((o23.1.n : Int) < (-1099511627776))) then kr (9, ())
  else rec (v18, v20, v21, IntKind.wrap .i64 (v22 + 1), ())))
  else 
  (bif (decide ((o23.1.n : Int) > 1099511627776)) || (decide ((o23.1.n : Int) < (-1099511627776))) then kr (9, ())
  else rec (v18, v20, v21, IntKind.wrap .i64 (v22 + 1), ()))))) (fun (v24, _) => kr (v24, ()))) (n) (v2, v5, v3, v4, v5, x6.r, (x6.r.length : Int), 0, ((Ev.Cnt.mk x6.r x6.n), ()), ()))
  else kx (()))

noncomputable def F_bag_Check_s2 {ρ : Type} (n : Nat) (kr : Int × Unit → Option ρ) : Int → Ev.Val → ((List Ev.Cnt) × Int × (List Ev.Cnt) × Int × Int × (Ev.Cnt × Unit) × Unit) → (((List Ev.Cnt) × Int × (List Ev.Cnt) × Int × Int × (Ev.Cnt × Unit) × Unit) → Option ρ) → Option ρ :=
  fun v14 x16 (v7, v8, v9, v10, v11, o15, _) rec =>  
  (value_Check n ((Ev.Val.mk x16.kind x16.n x16.s x16.l), ())).bind fun (y17, _) => 
  (bif (y17 : Int) != 0 then kr (y17, ())
  else rec (v7, v8, v9, v10, v11, ((Ev.Cnt.mk o15.1.r o15.1.n), ()), ()))

theorem R_bag_Check_s2 {ρ : Type} (n : Nat) (kx : (List Ev.Cnt) × Int × (List Ev.Cnt) × Int × Int × (Ev.Cnt × Unit) × Unit → Option ρ) (kr : Int × Unit → Option ρ) (l : List Ev.Val) (fuel : Nat) (v7 : List Ev.Cnt) (v8 : Int) (v9 : List Ev.Cnt) (v10 : Int) (v11 : Int) (o15 : Ev.Cnt × Unit) (hl : l.length ≤ 9223372036854775807) (hf : l.length < fuel) :
    iterN (fun rc => bag_Check_s2 n rc kx kr) fuel (v7, v8, v9, v10, v11, l, (l.length : Int), 0, o15, ()) = foldK (F_bag_Check_s2 n kr) (fun (v7, v8, v9, v10, v11, o15, _) => kx (v7, v8, v9, v10, v11, ((Ev.Cnt.mk o15.1.r o15.1.n), ()), ())) 0 l (v7, v8, v9, v10, v11, o15, ()) :=
  range_listM l (fun i (v7, v8, v9, v10, v11, o15, _) => (v7, v8, v9, v10, v11, l, (l.length : Int), i, o15, ())) _ _ _ (fun rec i s => rfl) hl fuel (v7, v8, v9, v10, v11, o15, ()) hf

/-- bag.Check -/
noncomputable def bag_Check (n : Nat) : (List Ev.Cnt) × Unit → Option (Int × Unit) :=
  fun (a1, _) => 
  (bif decide (((a1.length : Int) : Int) > 2000) then some (2, ())
  else 
  iterN (fun rc29 => bag_Check_s0 n rc29 (fun (_) => some (0, ())) (fun (v28, _) => some (v28, ()))) (n) (a1, a1, (a1.length : Int), 0, ()))

/-- bag.Join$1$1 -/
noncomputable def bag_Join_1_1 : Ev.Val × Unit → Option (Bool × Unit) :=
  fun (a1, _) => some ((a1.kind : Int) == 0, ())

/-- a round of a loop of slices.IndexFunc api.Row,api.Value  -/
noncomputable def sl_IndexFunc_W_V_bag_Join_1_1_s0 {ρ : Type} (n : Nat) (rec : (List Ev.Val) × Int × Int × Unit → Option ρ) (kx : Unit → Option ρ) (kr : Int × Unit → Option ρ) : (List Ev.Val) × Int × Int × Unit → Option ρ :=
  fun (v2, v3, v4, _) => 
  (bif decide ((v4 : Int) < v3) then 
  (ix v2 v4).bind fun x5 => 
  (bag_Join_1_1 ((Ev.Val.mk x5.kind x5.n x5.s x5.l), ())).bind fun (y6, _) => 
  (bif y6 then kr (v4, ())
  else rec (v2, v3, IntKind.wrap .i64 (v4 + 1), ()))
  else kx (()))

noncomputable def F_sl_IndexFunc_W_V_bag_Join_1_1_s0 {ρ : Type} (n : Nat) (kr : Int × Unit → Option ρ) : Int → Ev.Val → Unit → (Unit → Option ρ) → Option ρ :=
  fun v4 x5 (_) rec =>  
  (bag_Join_1_1 ((Ev.Val.mk x5.kind x5.n x5.s x5.l), ())).bind fun (y6, _) => 
  (bif y6 then kr (v4, ())
  else rec (()))

theorem R_sl_IndexFunc_W_V_bag_Join_1_1_s0 {ρ : Type} (n : Nat) (kx : Unit → Option ρ) (kr : Int × Unit → Option ρ) (l : List Ev.Val) (fuel : Nat) (hl : l.length ≤ 9223372036854775807) (hf : l.length < fuel) :
    iterN (fun rc => sl_IndexFunc_W_V_bag_Join_1_1_s0 n rc kx kr) fuel (l, (l.length : Int), 0, ()) = foldK (F_sl_IndexFunc_W_V_bag_Join_1_1_s0 n kr) (fun (_) => kx (())) 0 l (()) :=
  range_listM l (fun i (_) => (l, (l.length : Int), i, ())) _ _ _ (fun rec i s => rfl) hl fuel (()) hf

/-- slices.IndexFunc api.Row,api.Value  -/
noncomputable def sl_IndexFunc_W_V_bag_Join_1_1 (n : Nat) : (List Ev.Val) × Unit → Option (Int × Unit) :=
  fun (a1, _) => 
  iterN (fun rc8 => sl_IndexFunc_W_V_bag_Join_1_1_s0 n rc8 (fun (_) => some ((-1), ())) (fun (v7, _) => some (v7, ()))) (n) (a1, (a1.length : Int), 0, ())

/-- slices.ContainsFunc api.Row,api.Value  -/
noncomputable def sl_ContainsFunc_W_V_bag_Join_1_1 (n : Nat) : (List Ev.Val) × Unit → Option (Bool × Unit) :=
  fun (a1, _) => 
  (sl_IndexFunc_W_V_bag_Join_1_1 n (a1, ())).bind fun (y2, _) => some (decide ((y2 : Int) ≥ 0), ())

/-- bag.size -/
noncomputable def bag_size : Int × Unit → Option (Int × Unit) :=
  fun (a1, _) => some ((if (IntKind.wrap .i64 (0 - a1)) > a1 then (IntKind.wrap .i64 (0 - a1)) else a1), ())

/-- slices.Grow api.Row,api.Value  -/
noncomputable def sl_Grow_W_V_own : Int × Unit → Option ((List Ev.Val) × Unit) :=
  fun (a1, _) => 
  (bif decide ((a1 : Int) < 0) then none
  else 
  (bif decide ((IntKind.wrap .i64 (a1 - 0) : Int) > 0) then 
  ck (decide ((0 : Int) = 0 ∧ (0 : Int) = 0)) (
  ck (decide (0 < (IntKind.wrap .i64 (a1 - 0))) && room (IntKind.wrap .i64 (a1 - 0) : Int).toNat 56) (
  (cut? (List.replicate (IntKind.wrap .i64 (a1 - 0) : Int).toNat (Ev.Val.mk 0 0 (⟨#[]⟩ : ByteArray) ([] : List Ev.Val))) 0).bind fun r2 => some (r2, ())))
  else some (([] : List Ev.Val), ())))

/-- a round of a loop of slices.Concat api.Row,api.Value  -/
noncomputable def sl_Concat_W_V_s0 {ρ : Type} (n : Nat) (rec : (List (List Ev.Val)) × Int × (List (List Ev.Val)) × Int × Int × Unit → Option ρ) (kx : (List (List Ev.Val)) × Int × Unit → Option ρ) (kr : Unit → Option ρ) : (List (List Ev.Val)) × Int × (List (List Ev.Val)) × Int × Int × Unit → Option ρ :=
  fun (v2, v3, v4, v5, v6, _) => 
  (bif decide ((v6 : Int) < v5) then 
  (ix v4 v6).bind fun x7 => 
  (bif decide ((IntKind.wrap .i64 (v3 + (x7.length : Int)) : Int) < 0) then none
  else rec (v2, IntKind.wrap .i64 (v3 + (x7.length : Int)), v4, v5, IntKind.wrap .i64 (v6 + 1), ()))
  else kx (v2, v3, ()))

/-- a round of a loop of slices.Concat api.Row,api.Value  -/
noncomputable def sl_Concat_W_V_s2 {ρ : Type} (n : Nat) (rec : (List (List Ev.Val)) × Int × Int × (List Ev.Val) × Unit → Option ρ) (kx : (List Ev.Val) × Unit → Option ρ) (kr : Unit → Option ρ) : (List (List Ev.Val)) × Int × Int × (List Ev.Val) × Unit → Option ρ :=
  fun (v11, v12, v13, o14, _) => 
  (bif decide ((v13 : Int) < v12) then 
  (ix v11 v13).bind fun x15 => 
  ck (room (o14 ++ x15).length 56) (rec (v11, v12, IntKind.wrap .i64 (v13 + 1), o14 ++ x15, ()))
  else kx (o14, ()))

noncomputable def F_sl_Concat_W_V_s0 {ρ : Type} (n : Nat) (kr : Unit → Option ρ) : Int → ((List Ev.Val)) → ((List (List Ev.Val)) × Int × Unit) → (((List (List Ev.Val)) × Int × Unit) → Option ρ) → Option ρ :=
  fun v6 x7 (v2, v3, _) rec =>  
  (bif decide ((IntKind.wrap .i64 (v3 + (x7.length : Int)) : Int) < 0) then none
  else rec (v2, IntKind.wrap .i64 (v3 + (x7.length : Int)), ()))

theorem R_sl_Concat_W_V_s0 {ρ : Type} (n : Nat) (kx : (List (List Ev.Val)) × Int × Unit → Option ρ) (kr : Unit → Option ρ) (l : List (List Ev.Val)) (fuel : Nat) (v2 : List (List Ev.Val)) (v3 : Int) (hl : l.length ≤ 9223372036854775807) (hf : l.length < fuel) :
    iterN (fun rc => sl_Concat_W_V_s0 n rc kx kr) fuel (v2, v3, l, (l.length : Int), 0, ()) = foldK (F_sl_Concat_W_V_s0 n kr) (fun (v2, v3, _) => kx (v2, v3, ())) 0 l (v2, v3, ()) :=
  range_listM l (fun i (v2, v3, _) => (v2, v3, l, (l.length : Int), i, ())) _ _ _ (fun rec i s => rfl) hl fuel (v2, v3, ()) hf

noncomputable def F_sl_Concat_W_V_s2 {ρ : Type} (n : Nat) (kr : Unit → Option ρ) : Int → ((List Ev.Val)) → ((List Ev.Val) × Unit) → (((List Ev.Val) × Unit) → Option ρ) → Option ρ :=
  fun v13 x15 (o14, _) rec =>  
  ck (room (o14 ++ x15).length 56) (rec (o14 ++ x15, ()))

theorem R_sl_Concat_W_V_s2 {ρ : Type} (n : Nat) (kx : (List Ev.Val) × Unit → Option ρ) (kr : Unit → Option ρ) (l : List (List Ev.Val)) (fuel : Nat) (o14 : List Ev.Val) (hl : l.length ≤ 9223372036854775807) (hf : l.length < fuel) :
    iterN (fun rc => sl_Concat_W_V_s2 n rc kx kr) fuel (l, (l.length : Int), 0, o14, ()) = foldK (F_sl_Concat_W_V_s2 n kr) (fun (o14, _) => kx (o14, ())) 0 l (o14, ()) :=
  range_listM l (fun i (o14, _) => (l, (l.length : Int), i, o14, ())) _ _ _ (fun rec i s => rfl) hl fuel (o14, ()) hf

/-- slices.Concat api.Row,api.Value  -/
noncomputable def sl_Concat_W_V (n : Nat) : (List (List Ev.Val)) × Unit → Option ((List Ev.Val) × Unit) :=
  fun (a1, _) => 
  iterN (fun rc18 => sl_Concat_W_V_s0 n rc18 (fun (v8, v9, _) => 
  (sl_Grow_W_V_own (v9, ())).bind fun (o10, _) => 
  iterN (fun rc17 => sl_Concat_W_V_s2 n rc17 (fun (o16, _) => some (o16, ())) (fun (_) => none)) (n) (v8, (v8.length : Int), 0, o10, ())) (fun (_) => none)) (n) (a1, 0, a1, (a1.length : Int), 0, ())

/-- slices.Clone   api.Count,api.Count  -/
noncomputable def sl_Clone_C_C_own : (List Ev.Cnt) × Unit → Option ((List Ev.Cnt) × Unit) :=
  fun (a1, _) => 
  nilq a1 (some (([] : List Ev.Cnt), ())) (
  ck (room (([] : List Ev.Cnt) ++ a1).length 32) (some (([] : List Ev.Cnt) ++ a1, ())))

/-- bag.Gather$1 -/
noncomputable def bag_Gather_1 (n : Nat) : Ev.Cnt × Ev.Cnt × Unit → Option (Int × Unit) :=
  fun (a1, a2, _) => 
  (bag_Compare n (a1.r, a2.r, ())).bind fun (y3, _) => some (y3, ())

/-- a round of a loop of slices.iSCmpFunc api.Count  -/
noncomputable def sl_iSCF_C_bag_Gather_1_s2 {ρ : Type} (n : Nat) (rec : Int × Int × Int × Int × (List Ev.Cnt) × Unit → Option ρ) (kx : Int × Int × Int × (List Ev.Cnt) × Unit → Option ρ) (kr : Unit → Option ρ) : Int × Int × Int × Int × (List Ev.Cnt) × Unit → Option ρ :=
  fun (v8, v9, v10, v11, o12, _) => 
  (bif decide ((v11 : Int) > v8) then 
  (ix o12 v11).bind fun _ => 
  ((o12)[(v11 : Int).toNat]?).bind fun e13 => 
  (ix o12 (IntKind.wrap .i64 (v11 - 1))).bind fun _ => 
  ((o12)[(IntKind.wrap .i64 (v11 - 1) : Int).toNat]?).bind fun e14 => 
  (bag_Gather_1 n ((Ev.Cnt.mk e13.r e13.n), (Ev.Cnt.mk e14.r e14.n), ())).bind fun (y15, _) => 
  (bif decide ((y15 : Int) < 0) then 
  (ix o12 (IntKind.wrap .i64 (v11 - 1))).bind fun _ => 
  ((o12)[(IntKind.wrap .i64 (v11 - 1) : Int).toNat]?).bind fun e20 => 
  (ix o12 v11).bind fun _ => 
  ((o12)[(v11 : Int).toNat]?).bind fun e21 => 
  (ix o12 v11).bind fun _ => 
  ((o12)[(v11 : Int).toNat]?).bind fun e22 => 
  (ix ((o12).set ((v11 : Int).toNat) (Ev.Cnt.mk e20.r e20.n)) (IntKind.wrap .i64 (v11 - 1))).bind fun _ => 
  (((o12).set ((v11 : Int).toNat) (Ev.Cnt.mk e20.r e20.n))[(IntKind.wrap .i64 (v11 - 1) : Int).toNat]?).bind fun e23 => rec (v8, v9, v10, IntKind.wrap .i64 (v11 - 1), ((o12).set ((v11 : Int).toNat) (Ev.Cnt.mk e20.r e20.n)).set ((IntKind.wrap .i64 (v11 - 1) : Int).toNat) (Ev.Cnt.mk e21.r e21.n), ())
  else kx (v8, v9, v10, o12, ()))
  else kx (v8, v9, v10, o12, ()))

/-- a round of a loop of slices.iSCmpFunc api.Count  -/
noncomputable def sl_iSCF_C_bag_Gather_1_s0 {ρ : Type} (n : Nat) (rec : Int × Int × Int × (List Ev.Cnt) × Unit → Option ρ) (kx : (List Ev.Cnt) × Unit → Option ρ) (kr : Unit → Option ρ) : Int × Int × Int × (List Ev.Cnt) × Unit → Option ρ :=
  fun (v4, v5, v6, o7, _) => 
  (bif decide ((v6 : Int) < v5) then 
  iterN (fun rc28 => sl_iSCF_C_bag_Gather_1_s2 n rc28 (fun (v24, v25, v26, o27, _) => rec (v24, v25, IntKind.wrap .i64 (v26 + 1), o27, ())) (fun (_) => none)) (n) (v4, v5, v6, v6, o7, ())
  else kx (o7, ()))

/-- slices.iSCmpFunc api.Count  -/
noncomputable def sl_iSCF_C_bag_Gather_1 (n : Nat) : Int × Int × (List Ev.Cnt) × Unit → Option ((List Ev.Cnt) × Unit) :=
  fun (a1, a2, o3, _) => 
  iterN (fun rc30 => sl_iSCF_C_bag_Gather_1_s0 n rc30 (fun (o29, _) => some (o29, ())) (fun (_) => none)) (n) (a1, a2, IntKind.wrap .i64 (a1 + 1), o3, ())

/-- a round of a loop of slices.swapRangeCmpFunc api.Count  -/
noncomputable def sl_swapRangeCF_C_bag_Gather_1_s0 {ρ : Type} (n : Nat) (rec : Int × Int × Int × Int × (List Ev.Cnt) × Unit → Option ρ) (kx : (List Ev.Cnt) × Unit → Option ρ) (kr : Unit → Option ρ) : Int × Int × Int × Int × (List Ev.Cnt) × Unit → Option ρ :=
  fun (v5, v6, v7, v8, o9, _) => 
  (bif decide ((v8 : Int) < v7) then 
  (ix o9 (IntKind.wrap .i64 (v6 + v8))).bind fun _ => 
  ((o9)[(IntKind.wrap .i64 (v6 + v8) : Int).toNat]?).bind fun e14 => 
  (ix o9 (IntKind.wrap .i64 (v5 + v8))).bind fun _ => 
  ((o9)[(IntKind.wrap .i64 (v5 + v8) : Int).toNat]?).bind fun e15 => 
  (ix o9 (IntKind.wrap .i64 (v5 + v8))).bind fun _ => 
  ((o9)[(IntKind.wrap .i64 (v5 + v8) : Int).toNat]?).bind fun e16 => 
  (ix ((o9).set ((IntKind.wrap .i64 (v5 + v8) : Int).toNat) (Ev.Cnt.mk e14.r e14.n)) (IntKind.wrap .i64 (v6 + v8))).bind fun _ => 
  (((o9).set ((IntKind.wrap .i64 (v5 + v8) : Int).toNat) (Ev.Cnt.mk e14.r e14.n))[(IntKind.wrap .i64 (v6 + v8) : Int).toNat]?).bind fun e17 => rec (v5, v6, v7, IntKind.wrap .i64 (v8 + 1), ((o9).set ((IntKind.wrap .i64 (v5 + v8) : Int).toNat) (Ev.Cnt.mk e14.r e14.n)).set ((IntKind.wrap .i64 (v6 + v8) : Int).toNat) (Ev.Cnt.mk e15.r e15.n), ())
  else kx (o9, ()))

/-- slices.swapRangeCmpFunc api.Count  -/
noncomputable def sl_swapRangeCF_C_bag_Gather_1 (n : Nat) : Int × Int × Int × (List Ev.Cnt) × Unit → Option ((List Ev.Cnt) × Unit) :=
  fun (a1, a2, a3, o4, _) => 
  iterN (fun rc19 => sl_swapRangeCF_C_bag_Gather_1_s0 n rc19 (fun (o18, _) => some (o18, ())) (fun (_) => none)) (n) (a1, a2, a3, 0, o4, ())

/-- a round of a loop of slices.rotateCmpFunc api.Count  -/
noncomputable def sl_rotateCF_C_bag_Gather_1_s0 {ρ : Type} (n : Nat) (rec : Int × Int × Int × (List Ev.Cnt) × Unit → Option ρ) (kx : Int × Int × (List Ev.Cnt) × Unit → Option ρ) (kr : Unit → Option ρ) : Int × Int × Int × (List Ev.Cnt) × Unit → Option ρ :=
  fun (v5, v6, v7, o8, _) => 
  (bif (v6 : Int) != v7 then 
  (bif decide ((v6 : Int) > v7) then 
  (sl_swapRangeCF_C_bag_Gather_1 n (IntKind.wrap .i64 (v5 - v6), v5, v7, o8, ())).bind fun (o9, _) => rec (v5, IntKind.wrap .i64 (v6 - v7), v7, o9, ())
  else 
  (sl_swapRangeCF_C_bag_Gather_1 n (IntKind.wrap .i64 (v5 - v6), IntKind.wrap .i64 ((IntKind.wrap .i64 (v5 + v7)) - v6), v6, o8, ())).bind fun (o10, _) => rec (v5, v6, IntKind.wrap .i64 (v7 - v6), o10, ()))
  else kx (v5, v6, o8, ()))

/-- slices.rotateCmpFunc api.Count  -/
noncomputable def sl_rotateCF_C_bag_Gather_1 (n : Nat) : Int × Int × Int × (List Ev.Cnt) × Unit → Option ((List Ev.Cnt) × Unit) :=
  fun (a1, a2, a3, o4, _) => 
  iterN (fun rc15 => sl_rotateCF_C_bag_Gather_1_s0 n rc15 (fun (v11, v12, o13, _) => 
  (sl_swapRangeCF_C_bag_Gather_1 n (IntKind.wrap .i64 (v11 - v12), v11, v12, o13, ())).bind fun (o14, _) => some (o14, ())) (fun (_) => none)) (n) (a2, IntKind.wrap .i64 (a2 - a1), IntKind.wrap .i64 (a3 - a2), o4, ())

/-- a round of a loop of slices.sMCmpFunc api.Count  -/
noncomputable def sl_sMCF_C_bag_Gather_1_s0 {ρ : Type} (self_sl_sMCF_C_bag_Gather_1 : Int × Int × Int × (List Ev.Cnt) × Unit → Option ((List Ev.Cnt) × Unit)) (n : Nat) (rec : Int × Int × Int × (List Ev.Cnt) × Unit → Option ρ) (kx : Int × Int × (List Ev.Cnt) × Unit → Option ρ) (kr : Unit → Option ρ) : Int × Int × Int × (List Ev.Cnt) × Unit → Option ρ :=
  fun (v5, v6, v7, o8, _) => 
  (bif decide ((v6 : Int) < v7) then 
  (ix o8 (IntKind.wrap .i64 (bshr .u64 (IntKind.wrap .u64 (IntKind.wrap .i64 (v6 + v7))) 1))).bind fun _ => 
  ((o8)[(IntKind.wrap .i64 (bshr .u64 (IntKind.wrap .u64 (IntKind.wrap .i64 (v6 + v7))) 1) : Int).toNat]?).bind fun e11 => 
  (ix o8 v5).bind fun _ => 
  ((o8)[(v5 : Int).toNat]?).bind fun e12 => 
  (bag_Gather_1 n ((Ev.Cnt.mk e11.r e11.n), (Ev.Cnt.mk e12.r e12.n), ())).bind fun (y13, _) => 
  (bif decide ((y13 : Int) < 0) then rec (v5, IntKind.wrap .i64 ((IntKind.wrap .i64 (bshr .u64 (IntKind.wrap .u64 (IntKind.wrap .i64 (v6 + v7))) 1)) + 1), v7, o8, ())
  else rec (v5, v6, IntKind.wrap .i64 (bshr .u64 (IntKind.wrap .u64 (IntKind.wrap .i64 (v6 + v7))) 1), o8, ()))
  else kx (v5, v6, o8, ()))

/-- a round of a loop of slices.sMCmpFunc api.Count  -/
noncomputable def sl_sMCF_C_bag_Gather_1_s2 {ρ : Type} (self_sl_sMCF_C_bag_Gather_1 : Int × Int × Int × (List Ev.Cnt) × Unit → Option ((List Ev.Cnt) × Unit)) (n : Nat) (rec : Int × Int × (List Ev.Cnt) × Unit → Option ρ) (kx : (List Ev.Cnt) × Unit → Option ρ) (kr : Unit → Option ρ) : Int × Int × (List Ev.Cnt) × Unit → Option ρ :=
  fun (v17, v18, o19, _) => 
  (bif decide ((v18 : Int) < (IntKind.wrap .i64 (v17 - 1))) then 
  (ix o19 (IntKind.wrap .i64 (v18 + 1))).bind fun _ => 
  ((o19)[(IntKind.wrap .i64 (v18 + 1) : Int).toNat]?).bind fun e24 => 
  (ix o19 v18).bind fun _ => 
  ((o19)[(v18 : Int).toNat]?).bind fun e25 => 
  (ix o19 v18).bind fun _ => 
  ((o19)[(v18 : Int).toNat]?).bind fun e26 => 
  (ix ((o19).set ((v18 : Int).toNat) (Ev.Cnt.mk e24.r e24.n)) (IntKind.wrap .i64 (v18 + 1))).bind fun _ => 
  (((o19).set ((v18 : Int).toNat) (Ev.Cnt.mk e24.r e24.n))[(IntKind.wrap .i64 (v18 + 1) : Int).toNat]?).bind fun e27 => rec (v17, IntKind.wrap .i64 (v18 + 1), ((o19).set ((v18 : Int).toNat) (Ev.Cnt.mk e24.r e24.n)).set ((IntKind.wrap .i64 (v18 + 1) : Int).toNat) (Ev.Cnt.mk e25.r e25.n), ())
  else kx (o19, ()))

/-- a round of a loop of slices.sMCmpFunc api.Count  -/
noncomputable def sl_sMCF_C_bag_Gather_1_s4 {ρ : Type} (self_sl_sMCF_C_bag_Gather_1 : Int × Int × Int × (List Ev.Cnt) × Unit → Option ((List Ev.Cnt) × Unit)) (n : Nat) (rec : Int × Int × Int × (List Ev.Cnt) × Unit → Option ρ) (kx : Int × Int × (List Ev.Cnt) × Unit → Option ρ) (kr : Unit → Option ρ) : Int × Int × Int × (List Ev.Cnt) × Unit → Option ρ :=
  fun (v31, v32, v33, o34, _) => 
  (bif decide ((v32 : Int) < v33) then 
  (ix o34 v31).bind fun _ => 
  ((o34)[(v31 : Int).toNat]?).bind fun e37 => 
  (ix o34 (IntKind.wrap .i64 (bshr .u64 (IntKind.wrap .u64 (IntKind.wrap .i64 (v32 + v33))) 1))).bind fun _ => 
  ((o34)[(IntKind.wrap .i64 (bshr .u64 (IntKind.wrap .u64 (IntKind.wrap .i64 (v32 + v33))) 1) : Int).toNat]?).bind fun e38 => 
  (bag_Gather_1 n ((Ev.Cnt.mk e37.r e37.n), (Ev.Cnt.mk e38.r e38.n), ())).bind fun (y39, _) => 
  (bif !(decide ((y39 : Int) < 0)) then rec (v31, IntKind.wrap .i64 ((IntKind.wrap .i64 (bshr .u64 (IntKind.wrap .u64 (IntKind.wrap .i64 (v32 + v33))) 1)) + 1), v33, o34, ())
  else rec (v31, v32, IntKind.wrap .i64 (bshr .u64 (IntKind.wrap .u64 (IntKind.wrap .i64 (v32 + v33))) 1), o34, ()))
  else kx (v31, v32, o34, ()))

/-- a round of a loop of slices.sMCmpFunc api.Count  -/
noncomputable def sl_sMCF_C_bag_Gather_1_s6 {ρ : Type} (self_sl_sMCF_C_bag_Gather_1 : Int × Int × Int × (List Ev.Cnt) × Unit → Option ((List Ev.Cnt) × Unit)) (n : Nat) (rec : Int × Int × (List Ev.Cnt) × Unit → Option ρ) (kx : (List Ev.Cnt) × Unit → Option ρ) (kr : Unit → Option ρ) : Int × Int × (List Ev.Cnt) × Unit → Option ρ :=
  fun (v43, v44, o45, _) => 
  (bif decide ((v44 : Int) > v43) then 
  (ix o45 (IntKind.wrap .i64 (v44 - 1))).bind fun _ => 
  ((o45)[(IntKind.wrap .i64 (v44 - 1) : Int).toNat]?).bind fun e50 => 
  (ix o45 v44).bind fun _ => 
  ((o45)[(v44 : Int).toNat]?).bind fun e51 => 
  (ix o45 v44).bind fun _ => 
  ((o45)[(v44 : Int).toNat]?).bind fun e52 => 
  (ix ((o45).set ((v44 : Int).toNat) (Ev.Cnt.mk e50.r e50.n)) (IntKind.wrap .i64 (v44 - 1))).bind fun _ => 
  (((o45).set ((v44 : Int).toNat) (Ev.Cnt.mk e50.r e50.n))[(IntKind.wrap .i64 (v44 - 1) : Int).toNat]?).bind fun e53 => rec (v43, IntKind.wrap .i64 (v44 - 1), ((o45).set ((v44 : Int).toNat) (Ev.Cnt.mk e50.r e50.n)).set ((IntKind.wrap .i64 (v44 - 1) : Int).toNat) (Ev.Cnt.mk e51.r e51.n), ())
  else kx (o45, ()))

/-- a round of a loop of slices.sMCmpFunc api.Count  -/
noncomputable def sl_sMCF_C_bag_Gather_1_s8 {ρ : Type} (self_sl_sMCF_C_bag_Gather_1 : Int × Int × Int × (List Ev.Cnt) × Unit → Option ((List Ev.Cnt) × Unit)) (n : Nat) (rec : Int × Int × Int × Int × Int × Int × Int × Int × (List Ev.Cnt) × Unit → Option ρ) (kx : Int × Int × Int × Int × Int × Int × (List Ev.Cnt) × Unit → Option ρ) (kr : Unit → Option ρ) : Int × Int × Int × Int × Int × Int × Int × Int × (List Ev.Cnt) × Unit → Option ρ :=
  fun (v57, v58, v59, v60, v61, v62, v63, v64, o65, _) => 
  (bif decide ((v62 : Int) < v63) then 
  (ix o65 (IntKind.wrap .i64 (v64 - (IntKind.wrap .i64 (bshr .u64 (IntKind.wrap .u64 (IntKind.wrap .i64 (v62 + v63))) 1))))).bind fun _ => 
  ((o65)[(IntKind.wrap .i64 (v64 - (IntKind.wrap .i64 (bshr .u64 (IntKind.wrap .u64 (IntKind.wrap .i64 (v62 + v63))) 1))) : Int).toNat]?).bind fun e68 => 
  (ix o65 (IntKind.wrap .i64 (bshr .u64 (IntKind.wrap .u64 (IntKind.wrap .i64 (v62 + v63))) 1))).bind fun _ => 
  ((o65)[(IntKind.wrap .i64 (bshr .u64 (IntKind.wrap .u64 (IntKind.wrap .i64 (v62 + v63))) 1) : Int).toNat]?).bind fun e69 => 
  (bag_Gather_1 n ((Ev.Cnt.mk e68.r e68.n), (Ev.Cnt.mk e69.r e69.n), ())).bind fun (y70, _) => 
  (bif !(decide ((y70 : Int) < 0)) then rec (v57, v58, v59, v60, v61, IntKind.wrap .i64 ((IntKind.wrap .i64 (bshr .u64 (IntKind.wrap .u64 (IntKind.wrap .i64 (v62 + v63))) 1)) + 1), v63, v64, o65, ())
  else rec (v57, v58, v59, v60, v61, v62, IntKind.wrap .i64 (bshr .u64 (IntKind.wrap .u64 (IntKind.wrap .i64 (v62 + v63))) 1), v64, o65, ()))
  else kx (v57, v58, v59, v60, v61, v62, o65, ()))

/-- slices.sMCmpFunc api.Count  -/
noncomputable def sl_sMCF_C_bag_Gather_1_b (self_sl_sMCF_C_bag_Gather_1 : Int × Int × Int × (List Ev.Cnt) × Unit → Option ((List Ev.Cnt) × Unit)) (n : Nat) : Int × Int × Int × (List Ev.Cnt) × Unit → Option ((List Ev.Cnt) × Unit) :=
  fun (a1, a2, a3, o4, _) => 
  (bif (IntKind.wrap .i64 (a2 - a1) : Int) == 1 then 
  iterN (fun rc30 => sl_sMCF_C_bag_Gather_1_s0 self_sl_sMCF_C_bag_Gather_1 n rc30 (fun (v14, v15, o16, _) => 
  iterN (fun rc29 => sl_sMCF_C_bag_Gather_1_s2 self_sl_sMCF_C_bag_Gather_1 n rc29 (fun (o28, _) => some (o28, ())) (fun (_) => none)) (n) (v15, v14, o16, ())) (fun (_) => none)) (n) (a1, a2, a3, o4, ())
  else 
  (bif (IntKind.wrap .i64 (a3 - a2) : Int) == 1 then 
  iterN (fun rc56 => sl_sMCF_C_bag_Gather_1_s4 self_sl_sMCF_C_bag_Gather_1 n rc56 (fun (v40, v41, o42, _) => 
  iterN (fun rc55 => sl_sMCF_C_bag_Gather_1_s6 self_sl_sMCF_C_bag_Gather_1 n rc55 (fun (o54, _) => some (o54, ())) (fun (_) => none)) (n) (v41, v40, o42, ())) (fun (_) => none)) (n) (a2, a1, a2, o4, ())
  else 
  (bif decide ((a2 : Int) > (IntKind.wrap .i64 (bshr .u64 (IntKind.wrap .u64 (IntKind.wrap .i64 (a1 + a3))) 1))) then 
  iterN (fun rc85 => sl_sMCF_C_bag_Gather_1_s8 self_sl_sMCF_C_bag_Gather_1 n rc85 (fun (v71, v72, v73, v74, v75, v76, o77, _) => 
  (bif (decide ((v76 : Int) < v72)) && (decide ((v72 : Int) < (IntKind.wrap .i64 (v75 - v76)))) then 
  (sl_rotateCF_C_bag_Gather_1 n (v76, v72, IntKind.wrap .i64 (v75 - v76), o77, ())).bind fun (o78, _) => 
  (bif (decide ((v71 : Int) < v76)) && (decide ((v76 : Int) < v74)) then 
  (self_sl_sMCF_C_bag_Gather_1 (v71, v76, v74, o78, ())).bind fun (o79, _) => 
  (bif (decide ((v74 : Int) < (IntKind.wrap .i64 (v75 - v76)))) && (decide ((IntKind.wrap .i64 (v75 - v76) : Int) < v73)) then 
  (self_sl_sMCF_C_bag_Gather_1 (v74, IntKind.wrap .i64 (v75 - v76), v73, o79, ())).bind fun (o80, _) => some (o80, ())
  else some (o79, ()))
  else 
  (bif (decide ((v74 : Int) < (IntKind.wrap .i64 (v75 - v76)))) && (decide ((IntKind.wrap .i64 (v75 - v76) : Int) < v73)) then 
  (self_sl_sMCF_C_bag_Gather_1 (v74, IntKind.wrap .i64 (v75 - v76), v73, o78, ())).bind fun (o81, _) => some (o81, ())
  else some (o78, ())))
  else 
  (bif (decide ((v71 : Int) < v76)) && (decide ((v76 : Int) < v74)) then 
  (self_sl_sMCF_C_bag_Gather_1 (v71, v76, v74, o77, ())).bind fun (o82, _) => 
  (bif (decide ((v74 : Int) < (IntKind.wrap .i64 (v75 - v76)))) && (decide ((IntKind.wrap .i64 (v75 - v76) : Int) < v73)) then 
  (self_sl_sMCF_C_bag_Gather_1 (v74, IntKind.wrap .i64 (v75 - v76), v73, o82, ())).bind fun (o83, _) => some (o83, ())
  else some (o82, ()))
  else 
  (bif (decide ((v74 : Int) < (IntKind.wrap .i64 (v75 - v76)))) && (decide ((IntKind.wrap .i64 (v75 - v76) : Int) < v73)) then 
  (self_sl_sMCF_C_bag_Gather_1 (v74, IntKind.wrap .i64 (v75 - v76), v73, o77, ())).bind fun (o84, _) => some (o84, ())
  else some (o77, ()))))) (fun (_) => none)) (n) (a1, a2, a3, IntKind.wrap .i64 (bshr .u64 (IntKind.wrap .u64 (IntKind.wrap .i64 (a1 + a3))) 1), IntKind.wrap .i64 ((IntKind.wrap .i64 (bshr .u64 (IntKind.wrap .u64 (IntKind.wrap .i64 (a1 + a3))) 1)) + a2), IntKind.wrap .i64 ((IntKind.wrap .i64 ((IntKind.wrap .i64 (bshr .u64 (IntKind.wrap .u64 (IntKind.wrap .i64 (a1 + a3))) 1)) + a2)) - a3), IntKind.wrap .i64 (bshr .u64 (IntKind.wrap .u64 (IntKind.wrap .i64 (a1 + a3))) 1), IntKind.wrap .i64 ((IntKind.wrap .i64 ((IntKind.wrap .i64 (bshr .u64 (IntKind.wrap .u64 (IntKind.wrap .i64 (a1 + a3))) 1)) + a2)) - 1), o4, ())
  else 
  iterN (fun rc100 => sl_sMCF_C_bag_Gather_1_s8 self_sl_sMCF_C_bag_Gather_1 n rc100 (fun (v86, v87, v88, v89, v90, v91, o92, _) => 
  (bif (decide ((v91 : Int) < v87)) && (decide ((v87 : Int) < (IntKind.wrap .i64 (v90 - v91)))) then 
  (sl_rotateCF_C_bag_Gather_1 n (v91, v87, IntKind.wrap .i64 (v90 - v91), o92, ())).bind fun (o93, _) => 
  (bif (decide ((v86 : Int) < v91)) && (decide ((v91 : Int) < v89)) then 
  (self_sl_sMCF_C_bag_Gather_1 (v86, v91, v89, o93, ())).bind fun (o94, _) => 
  (bif (decide ((v89 : Int) < (IntKind.wrap .i64 (v90 - v91)))) && (decide ((IntKind.wrap .i64 (v90 - v91) : Int) < v88)) then 
  (self_sl_sMCF_C_bag_Gather_1 (v89, IntKind.wrap .i64 (v90 - v91), v88, o94, ())).bind fun (o95, _) => some (o95, ())
  else some (o94, ()))
  else 
  (bif (decide ((v89 : Int) < (IntKind.wrap .i64 (v90 - v91)))) && (decide ((IntKind.wrap .i64 (v90 - v91) : Int) < v88)) then 
  (self_sl_sMCF_C_bag_Gather_1 (v89, IntKind.wrap .i64 (v90 - v91), v88, o93, ())).bind fun (o96, _) => some (o96, ())
  else some (o93, ())))
  else 
  (bif (decide ((v86 : Int) < v91)) && (decide ((v91 : Int) < v89)) then 
  (self_sl_sMCF_C_bag_Gather_1 (v86, v91, v89, o92, ())).bind fun (o97, _) => 
  (bif (decide ((v89 : Int) < (IntKind.wrap .i64 (v90 - v91)))) && (decide ((IntKind.wrap .i64 (v90 - v91) : Int) < v88)) then 
  (self_sl_sMCF_C_bag_Gather_1 (v89, IntKind.wrap .i64 (v90 - v91), v88, o97, ())).bind fun (o98, _) => some (o98, ())
  else some (o97, ()))
  else 
  (bif (decide ((v89 : Int) < (IntKind.wrap .i64 (v90 - v91)))) && (decide ((IntKind.wrap .i64 (v90 - v91) : Int) < v88)) then 
  (self_sl_sMCF_C_bag_Gather_1 (v89, IntKind.wrap .i64 (v90 - v91), v88, o92, ())).bind fun (o99, _) => some (o99, ())
  else some (o92, ()))))) (fun (_) => none)) (n) (a1, a2, a3, IntKind.wrap .i64 (bshr .u64 (IntKind.wrap .u64 (IntKind.wrap .i64 (a1 + a3))) 1), IntKind.wrap .i64 ((IntKind.wrap .i64 (bshr .u64 (IntKind.wrap .u64 (IntKind.wrap .i64 (a1 + a3))) 1)) + a2), a1, a2, IntKind.wrap .i64 ((IntKind.wrap .i64 ((IntKind.wrap .i64 (bshr .u64 (IntKind.wrap .u64 (IntKind.wrap .i64 (a1 + a3))) 1)) + a2)) - 1), o4, ()))))

noncomputable def sl_sMCF_C_bag_Gather_1 : Nat → Int × Int × Int × (List Ev.Cnt) × Unit → Option ((List Ev.Cnt) × Unit)
  | 0, _ => none
  | n + 1, x => sl_sMCF_C_bag_Gather_1_b (sl_sMCF_C_bag_Gather_1 n) n x

/-- a round of a loop of slices.stableCmpFunc api.Count  -/
noncomputable def sl_stableCF_C_bag_Gather_1_s0 {ρ : Type} (n : Nat) (rec : Int × Int × Int × Int × (List Ev.Cnt) × Unit → Option ρ) (kx : Int × Int × Int × (List Ev.Cnt) × Unit → Option ρ) (kr : Unit → Option ρ) : Int × Int × Int × Int × (List Ev.Cnt) × Unit → Option ρ :=
  fun (v3, v4, v5, v6, o7, _) => 
  (bif decide ((v6 : Int) ≤ v3) then 
  (sl_iSCF_C_bag_Gather_1 n (v5, v6, o7, ())).bind fun (o8, _) => rec (v3, v4, v6, IntKind.wrap .i64 (v6 + v4), o8, ())
  else kx (v3, v4, v5, o7, ()))

/-- a round of a loop of slices.stableCmpFunc api.Count  -/
noncomputable def sl_stableCF_C_bag_Gather_1_s4 {ρ : Type} (n : Nat) (rec : Int × Int × Int × Int × (List Ev.Cnt) × Unit → Option ρ) (kx : Int × Int × Int × (List Ev.Cnt) × Unit → Option ρ) (kr : Unit → Option ρ) : Int × Int × Int × Int × (List Ev.Cnt) × Unit → Option ρ :=
  fun (v17, v18, v19, v20, o21, _) => 
  (bif decide ((v20 : Int) ≤ v17) then 
  (sl_sMCF_C_bag_Gather_1 n (v19, IntKind.wrap .i64 (v19 + v18), v20, o21, ())).bind fun (o22, _) => rec (v17, v18, v20, IntKind.wrap .i64 (v20 + (IntKind.wrap .i64 (2 * v18))), o22, ())
  else kx (v17, v18, v19, o21, ()))

/-- a round of a loop of slices.stableCmpFunc api.Count  -/
noncomputable def sl_stableCF_C_bag_Gather_1_s2 {ρ : Type} (n : Nat) (rec : Int × Int × (List Ev.Cnt) × Unit → Option ρ) (kx : (List Ev.Cnt) × Unit → Option ρ) (kr : Unit → Option ρ) : Int × Int × (List Ev.Cnt) × Unit → Option ρ :=
  fun (v14, v15, o16, _) => 
  (bif decide ((v15 : Int) < v14) then 
  iterN (fun rc28 => sl_stableCF_C_bag_Gather_1_s4 n rc28 (fun (v23, v24, v25, o26, _) => 
  (bif decide ((IntKind.wrap .i64 (v25 + v24) : Int) < v23) then 
  (sl_sMCF_C_bag_Gather_1 n (v25, IntKind.wrap .i64 (v25 + v24), v23, o26, ())).bind fun (o27, _) => rec (v23, IntKind.wrap .i64 (v24 * 2), o27, ())
  else rec (v23, IntKind.wrap .i64 (v24 * 2), o26, ()))) (fun (_) => none)) (n) (v14, v15, 0, IntKind.wrap .i64 (2 * v15), o16, ())
  else kx (o16, ()))

/-- slices.stableCmpFunc api.Count  -/
noncomputable def sl_stableCF_C_bag_Gather_1 (n : Nat) : Int × (List Ev.Cnt) × Unit → Option ((List Ev.Cnt) × Unit) :=
  fun (a1, o2, _) => 
  iterN (fun rc31 => sl_stableCF_C_bag_Gather_1_s0 n rc31 (fun (v9, v10, v11, o12, _) => 
  (sl_iSCF_C_bag_Gather_1 n (v11, v9, o12, ())).bind fun (o13, _) => 
  iterN (fun rc30 => sl_stableCF_C_bag_Gather_1_s2 n rc30 (fun (o29, _) => some (o29, ())) (fun (_) => none)) (n) (v9, v10, o13, ())) (fun (_) => none)) (n) (a1, 20, 0, 20, o2, ())

/-- slices.SortStableFunc   api.Count,api.Count  -/
noncomputable def sl_SortStableFunc_C_C_bag_Gather_1 (n : Nat) : (List Ev.Cnt) × Unit → Option ((List Ev.Cnt) × Unit) :=
  fun (o1, _) => 
  (sl_stableCF_C_bag_Gather_1 n ((o1.length : Int), o1, ())).bind fun (o2, _) => some (o2, ())

/-- a round of a loop of value.Copy -/
noncomputable def value_Copy_s0 {ρ : Type} (self_value_Copy : Ev.Val × Unit → Option (Ev.Val × Unit)) (n : Nat) (rec : (List Ev.Val) × Int × Int × (Int × Int × ByteArray × Unit) × (Ev.Val × Unit) × (List Ev.Val) × Unit → Option ρ) (kx : (Int × Int × ByteArray × Unit) × (Ev.Val × Unit) × (List Ev.Val) × Unit → Option ρ) (kr : Unit → Option ρ) : (List Ev.Val) × Int × Int × (Int × Int × ByteArray × Unit) × (Ev.Val × Unit) × (List Ev.Val) × Unit → Option ρ :=
  fun (v2, v3, v4, o5, o6, o7, _) => 
  (bif decide ((v4 : Int) < v3) then 
  (ix v2 v4).bind fun x8 => 
  (self_value_Copy ((Ev.Val.mk x8.kind x8.n x8.s x8.l), ())).bind fun (y10, _) => 
  ck (room (o7 ++ ([(Ev.Val.mk y10.kind y10.n y10.s y10.l)] : List Ev.Val)).length 56) (rec (v2, v3, IntKind.wrap .i64 (v4 + 1), (o5.1, o5.2.1, o5.2.2.1, ()), ((Ev.Val.mk o6.1.kind o6.1.n o6.1.s o6.1.l), ()), o7 ++ ([(Ev.Val.mk y10.kind y10.n y10.s y10.l)] : List Ev.Val), ()))
  else kx ((o5.1, o5.2.1, o5.2.2.1, ()), ((Ev.Val.mk o6.1.kind o6.1.n o6.1.s o6.1.l), ()), o7, ()))

noncomputable def F_value_Copy_s0 {ρ : Type} (self_value_Copy : Ev.Val × Unit → Option (Ev.Val × Unit)) (n : Nat) (kr : Unit → Option ρ) : Int → Ev.Val → ((Int × Int × ByteArray × Unit) × (Ev.Val × Unit) × (List Ev.Val) × Unit) → (((Int × Int × ByteArray × Unit) × (Ev.Val × Unit) × (List Ev.Val) × Unit) → Option ρ) → Option ρ :=
  fun v4 x8 (o5, o6, o7, _) rec =>  
  (self_value_Copy ((Ev.Val.mk x8.kind x8.n x8.s x8.l), ())).bind fun (y10, _) => 
  ck (room (o7 ++ ([(Ev.Val.mk y10.kind y10.n y10.s y10.l)] : List Ev.Val)).length 56) (rec ((o5.1, o5.2.1, o5.2.2.1, ()), ((Ev.Val.mk o6.1.kind o6.1.n o6.1.s o6.1.l), ()), o7 ++ ([(Ev.Val.mk y10.kind y10.n y10.s y10.l)] : List Ev.Val), ()))

theorem R_value_Copy_s0 {ρ : Type} (self_value_Copy : Ev.Val × Unit → Option (Ev.Val × Unit)) (n : Nat) (kx : (Int × Int × ByteArray × Unit) × (Ev.Val × Unit) × (List Ev.Val) × Unit → Option ρ) (kr : Unit → Option ρ) (l : List Ev.Val) (fuel : Nat) (o5 : Int × Int × ByteArray × Unit) (o6 : Ev.Val × Unit) (o7 : List Ev.Val) (hl : l.length ≤ 9223372036854775807) (hf : l.length < fuel) :
    iterN (fun rc => value_Copy_s0 self_value_Copy n rc kx kr) fuel (l, (l.length : Int), 0, o5, o6, o7, ()) = foldK (F_value_Copy_s0 self_value_Copy n kr) (fun (o5, o6, o7, _) => kx ((o5.1, o5.2.1, o5.2.2.1, ()), ((Ev.Val.mk o6.1.kind o6.1.n o6.1.s o6.1.l), ()), o7, ())) 0 l (o5, o6, o7, ()) :=
  range_listM l (fun i (o5, o6, o7, _) => (l, (l.length : Int), i, o5, o6, o7, ())) _ _ _ (fun rec i s => rfl) hl fuel (o5, o6, o7, ()) hf

/-- value.Copy -/
noncomputable def value_Copy_b (self_value_Copy : Ev.Val × Unit → Option (Ev.Val × Unit)) (n : Nat) : Ev.Val × Unit → Option (Ev.Val × Unit) :=
  fun (a1, _) => 
  iterN (fun rc14 => value_Copy_s0 self_value_Copy n rc14 (fun (o11, o12, o13, _) => some ((Ev.Val.mk o11.1 o11.2.1 o11.2.2.1 o13), ())) (fun (_) => none)) (n) (a1.l, (a1.l.length : Int), 0, (a1.kind, a1.n, a1.s, ()), ((Ev.Val.mk 0 0 (⟨#[]⟩ : ByteArray) ([] : List Ev.Val)), ()), ([] : List Ev.Val), ())

noncomputable def value_Copy : Nat → Ev.Val × Unit → Option (Ev.Val × Unit)
  | 0, _ => none
  | n + 1, x => value_Copy_b (value_Copy n) n x

/-- a round of a loop of bag.CopyRow -/
noncomputable def bag_CopyRow_s0 {ρ : Type} (n : Nat) (rec : (List Ev.Val) × Int × Int × (List Ev.Val) × Unit → Option ρ) (kx : (List Ev.Val) × Unit → Option ρ) (kr : Unit → Option ρ) : (List Ev.Val) × Int × Int × (List Ev.Val) × Unit → Option ρ :=
  fun (v2, v3, v4, o5, _) => 
  (bif decide ((v4 : Int) < v3) then 
  (ix v2 v4).bind fun x6 => 
  (value_Copy n ((Ev.Val.mk x6.kind x6.n x6.s x6.l), ())).bind fun (y7, _) => 
  ck (room (o5 ++ ([(Ev.Val.mk y7.kind y7.n y7.s y7.l)] : List Ev.Val)).length 56) (rec (v2, v3, IntKind.wrap .i64 (v4 + 1), o5 ++ ([(Ev.Val.mk y7.kind y7.n y7.s y7.l)] : List Ev.Val), ()))
  else kx (o5, ()))

noncomputable def F_bag_CopyRow_s0 {ρ : Type} (n : Nat) (kr : Unit → Option ρ) : Int → Ev.Val → ((List Ev.Val) × Unit) → (((List Ev.Val) × Unit) → Option ρ) → Option ρ :=
  fun v4 x6 (o5, _) rec =>  
  (value_Copy n ((Ev.Val.mk x6.kind x6.n x6.s x6.l), ())).bind fun (y7, _) => 
  ck (room (o5 ++ ([(Ev.Val.mk y7.kind y7.n y7.s y7.l)] : List Ev.Val)).length 56) (rec (o5 ++ ([(Ev.Val.mk y7.kind y7.n y7.s y7.l)] : List Ev.Val), ()))

theorem R_bag_CopyRow_s0 {ρ : Type} (n : Nat) (kx : (List Ev.Val) × Unit → Option ρ) (kr : Unit → Option ρ) (l : List Ev.Val) (fuel : Nat) (o5 : List Ev.Val) (hl : l.length ≤ 9223372036854775807) (hf : l.length < fuel) :
    iterN (fun rc => bag_CopyRow_s0 n rc kx kr) fuel (l, (l.length : Int), 0, o5, ()) = foldK (F_bag_CopyRow_s0 n kr) (fun (o5, _) => kx (o5, ())) 0 l (o5, ()) :=
  range_listM l (fun i (o5, _) => (l, (l.length : Int), i, o5, ())) _ _ _ (fun rec i s => rfl) hl fuel (o5, ()) hf

/-- bag.CopyRow -/
noncomputable def bag_CopyRow (n : Nat) : (List Ev.Val) × Unit → Option ((List Ev.Val) × Unit) :=
  fun (a1, _) => 
  iterN (fun rc9 => bag_CopyRow_s0 n rc9 (fun (o8, _) => some (o8, ())) (fun (_) => none)) (n) (a1, (a1.length : Int), 0, ([] : List Ev.Val), ())

/-- bag.Gather$2 -/
noncomputable def bag_Gather_2 : Ev.Cnt × Unit → Option (Bool × Unit) :=
  fun (a1, _) => some ((a1.n : Int) == 0, ())

/-- a round of a loop of slices.IndexFunc api.Bag,api.Count  -/
noncomputable def sl_IndexFunc_api_Bag_C_bag_Gather_2_s0 {ρ : Type} (n : Nat) (rec : (List Ev.Cnt) × Int × Int × Unit → Option ρ) (kx : Unit → Option ρ) (kr : Int × Unit → Option ρ) : (List Ev.Cnt) × Int × Int × Unit → Option ρ :=
  fun (v2, v3, v4, _) => 
  (bif decide ((v4 : Int) < v3) then 
  (ix v2 v4).bind fun x5 => 
  (bag_Gather_2 ((Ev.Cnt.mk x5.r x5.n), ())).bind fun (y6, _) => 
  (bif y6 then kr (v4, ())
  else rec (v2, v3, IntKind.wrap .i64 (v4 + 1), ()))
  else kx (()))

noncomputable def F_sl_IndexFunc_api_Bag_C_bag_Gather_2_s0 {ρ : Type} (n : Nat) (kr : Int × Unit → Option ρ) : Int → Ev.Cnt → Unit → (Unit → Option ρ) → Option ρ :=
  fun v4 x5 (_) rec =>  
  (bag_Gather_2 ((Ev.Cnt.mk x5.r x5.n), ())).bind fun (y6, _) => 
  (bif y6 then kr (v4, ())
  else rec (()))

theorem R_sl_IndexFunc_api_Bag_C_bag_Gather_2_s0 {ρ : Type} (n : Nat) (kx : Unit → Option ρ) (kr : Int × Unit → Option ρ) (l : List Ev.Cnt) (fuel : Nat) (hl : l.length ≤ 9223372036854775807) (hf : l.length < fuel) :
    iterN (fun rc => sl_IndexFunc_api_Bag_C_bag_Gather_2_s0 n rc kx kr) fuel (l, (l.length : Int), 0, ()) = foldK (F_sl_IndexFunc_api_Bag_C_bag_Gather_2_s0 n kr) (fun (_) => kx (())) 0 l (()) :=
  range_listM l (fun i (_) => (l, (l.length : Int), i, ())) _ _ _ (fun rec i s => rfl) hl fuel (()) hf

/-- slices.IndexFunc api.Bag,api.Count  -/
noncomputable def sl_IndexFunc_api_Bag_C_bag_Gather_2 (n : Nat) : (List Ev.Cnt) × Unit → Option (Int × Unit) :=
  fun (a1, _) => 
  iterN (fun rc8 => sl_IndexFunc_api_Bag_C_bag_Gather_2_s0 n rc8 (fun (_) => some ((-1), ())) (fun (v7, _) => some (v7, ()))) (n) (a1, (a1.length : Int), 0, ())

/-- a round of a loop of slices.DeleteFunc api.Bag,api.Count  -/
noncomputable def sl_DeleteFunc_api_Bag_C_bag_Gather_2_s0 {ρ : Type} (n : Nat) (rec : Int × Int × (List Ev.Cnt) × Unit → Option ρ) (kx : Int × (List Ev.Cnt) × Unit → Option ρ) (kr : Unit → Option ρ) : Int × Int × (List Ev.Cnt) × Unit → Option ρ :=
  fun (v3, v4, o5, _) => 
  (bif decide ((v4 : Int) < (o5.length : Int)) then 
  (ix o5 v4).bind fun _ => 
  ((o5)[(v4 : Int).toNat]?).bind fun e6 => 
  (bag_Gather_2 ((Ev.Cnt.mk e6.r e6.n), ())).bind fun (y7, _) => 
  (bif !y7 then 
  (ix o5 v3).bind fun _ => 
  ((o5)[(v3 : Int).toNat]?).bind fun e8 => rec (IntKind.wrap .i64 (v3 + 1), IntKind.wrap .i64 (v4 + 1), (o5).set ((v3 : Int).toNat) (Ev.Cnt.mk e6.r e6.n), ())
  else rec (v3, IntKind.wrap .i64 (v4 + 1), o5, ()))
  else kx (v3, o5, ()))

/-- slices.DeleteFunc api.Bag,api.Count  -/
noncomputable def sl_DeleteFunc_api_Bag_C_bag_Gather_2 (n : Nat) : (List Ev.Cnt) × Unit → Option ((List Ev.Cnt) × Unit) :=
  fun (o1, _) => 
  (sl_IndexFunc_api_Bag_C_bag_Gather_2 n (o1, ())).bind fun (y2, _) => 
  (bif (y2 : Int) == (-1) then some (o1, ())
  else 
  iterN (fun rc12 => sl_DeleteFunc_api_Bag_C_bag_Gather_2_s0 n rc12 (fun (v9, o10, _) => 
  ck (decide (0 ≤ (v9 : Int) ∧ (v9 : Int) ≤ ((o10).length : Int))) (
  ck (Nat.ble ((v9 : Int).toNat + ((o10).length - (v9 : Int).toNat)) (o10).length) (
  (cut? (clrL o10 ((v9 : Int).toNat) ((o10).length - (v9 : Int).toNat) (Ev.Cnt.mk ([] : List Ev.Val) 0)) v9).bind fun r11 => some (r11, ())))) (fun (_) => none)) (n) (y2, IntKind.wrap .i64 (y2 + 1), o1, ()))

/-- a round of a loop of bag.Gather -/
noncomputable def bag_Gather_s0 {ρ : Type} (n : Nat) (rec : (List Ev.Cnt) × Int × Int × (List Ev.Cnt) × Unit → Option ρ) (kx : (List Ev.Cnt) × Unit → Option ρ) (kr : Unit → Option ρ) : (List Ev.Cnt) × Int × Int × (List Ev.Cnt) × Unit → Option ρ :=
  fun (v4, v5, v6, o7, _) => 
  (bif decide ((v6 : Int) < v5) then 
  (ix v4 v6).bind fun x8 => 
  (bif decide ((IntKind.wrap .i64 ((o7.length : Int) - 1) : Int) ≥ 0) then 
  (ix o7 (IntKind.wrap .i64 ((o7.length : Int) - 1))).bind fun _ => 
  ((o7)[(IntKind.wrap .i64 ((o7.length : Int) - 1) : Int).toNat]?).bind fun e9 => 
  (bag_Compare n (e9.r, x8.r, ())).bind fun (y10, _) => 
  (bif (y10 : Int) == 0 then 
  (ix o7 (IntKind.wrap .i64 ((o7.length : Int) - 1))).bind fun _ => 
  ((o7)[(IntKind.wrap .i64 ((o7.length : Int) - 1) : Int).toNat]?).bind fun e13 => 
  (ix o7 (IntKind.wrap .i64 ((o7.length : Int) - 1))).bind fun _ => 
  ((o7)[(IntKind.wrap .i64 ((o7.length : Int) - 1) : Int).toNat]?).bind fun e14 => rec (v4, v5, IntKind.wrap .i64 (v6 + 1), (o7).set ((IntKind.wrap .i64 ((o7.length : Int) - 1) : Int).toNat) (Ev.Cnt.mk e14.r (IntKind.wrap .i64 (e13.n + x8.n))), ())
  else 
  (bag_CopyRow n (x8.r, ())).bind fun (y15, _) => 
  ck (room (o7 ++ ([(Ev.Cnt.mk y15 x8.n)] : List Ev.Cnt)).length 32) (rec (v4, v5, IntKind.wrap .i64 (v6 + 1), o7 ++ ([(Ev.Cnt.mk y15 x8.n)] : List Ev.Cnt), ())))
  else 
  (bag_CopyRow n (x8.r, ())).bind fun (y16, _) => 
  ck (room (o7 ++ ([(Ev.Cnt.mk y16 x8.n)] : List Ev.Cnt)).length 32) (rec (v4, v5, IntKind.wrap .i64 (v6 + 1), o7 ++ ([(Ev.Cnt.mk y16 x8.n)] : List Ev.Cnt), ())))
  else kx (o7, ()))

noncomputable def F_bag_Gather_s0 {ρ : Type} (n : Nat) (kr : Unit → Option ρ) : Int → Ev.Cnt → ((List Ev.Cnt) × Unit) → (((List Ev.Cnt) × Unit) → Option ρ) → Option ρ :=
  fun v6 x8 (o7, _) rec =>  
  (bif decide ((IntKind.wrap .i64 ((o7.length : Int) - 1) : Int) ≥ 0) then 
  (ix o7 (IntKind.wrap .i64 ((o7.length : Int) - 1))).bind fun _ => 
  ((o7)[(IntKind.wrap .i64 ((o7.length : Int) - 1) : Int).toNat]?).bind fun e9 => 
  (bag_Compare n (e9.r, x8.r, ())).bind fun (y10, _) => 
  (bif (y10 : Int) == 0 then 
  (ix o7 (IntKind.wrap .i64 ((o7.length : Int) - 1))).bind fun _ => 
  ((o7)[(IntKind.wrap .i64 ((o7.length : Int) - 1) : Int).toNat]?).bind fun e13 => 
  (ix o7 (IntKind.wrap .i64 ((o7.length : Int) - 1))).bind fun _ => 
  ((o7)[(IntKind.wrap .i64 ((o7.length : Int) - 1) : Int).toNat]?).bind fun e14 => rec ((o7).set ((IntKind.wrap .i64 ((o7.length : Int) - 1) : Int).toNat) (Ev.Cnt.mk e14.r (IntKind.wrap .i64 (e13.n + x8.n))), ())
  else 
  (bag_CopyRow n (x8.r, ())).bind fun (y15, _) => 
  ck (room (o7 ++ ([(Ev.Cnt.mk y15 x8.n)] : List Ev.Cnt)).length 32) (rec (o7 ++ ([(Ev.Cnt.mk y15 x8.n)] : List Ev.Cnt), ())))
  else 
  (bag_CopyRow n (x8.r, ())).bind fun (y16, _) => 
  ck (room (o7 ++ ([(Ev.Cnt.mk y16 x8.n)] : List Ev.Cnt)).length 32) (rec (o7 ++ ([(Ev.Cnt.mk y16 x8.n)] : List Ev.Cnt), ())))

theorem R_bag_Gather_s0 {ρ : Type} (n : Nat) (kx : (List Ev.Cnt) × Unit → Option ρ) (kr : Unit → Option ρ) (l : List Ev.Cnt) (fuel : Nat) (o7 : List Ev.Cnt) (hl : l.length ≤ 9223372036854775807) (hf : l.length < fuel) :
    iterN (fun rc => bag_Gather_s0 n rc kx kr) fuel (l, (l.length : Int), 0, o7, ()) = foldK (F_bag_Gather_s0 n kr) (fun (o7, _) => kx (o7, ())) 0 l (o7, ()) :=
  range_listM l (fun i (o7, _) => (l, (l.length : Int), i, o7, ())) _ _ _ (fun rec i s => rfl) hl fuel (o7, ()) hf

/-- bag.Gather -/
noncomputable def bag_Gather (n : Nat) : (List Ev.Cnt) × Unit → Option ((List Ev.Cnt) × Unit) :=
  fun (a1, _) => 
  (sl_Clone_C_C_own (a1, ())).bind fun (o2, _) => 
  (sl_SortStableFunc_C_C_bag_Gather_1 n (o2, ())).bind fun (o3, _) => 
  iterN (fun rc19 => bag_Gather_s0 n rc19 (fun (o17, _) => 
  (sl_DeleteFunc_api_Bag_C_bag_Gather_2 n (o17, ())).bind fun (o18, _) => some (o18, ())) (fun (_) => none)) (n) (o3, (o3.length : Int), 0, ([] : List Ev.Cnt), ())

/-- a round of a loop of bag.Join$1 -/
noncomputable def bag_Join_1_s2 {ρ : Type} (n : Nat) (rec : (List Ev.Cnt) × Int × Int × (List Ev.Cnt) × Int × Int × (List Ev.Cnt) × (Ev.Cnt × Unit) × ((List Ev.Cnt) × Unit) × ((List Ev.Cnt) × Unit) × (Int × Unit) × (Bool × Unit) × Unit → Option ρ) (kx : (List Ev.Cnt) × Int × Int × (List Ev.Cnt) × ((List Ev.Cnt) × Unit) × ((List Ev.Cnt) × Unit) × (Int × Unit) × (Bool × Unit) × Unit → Option ρ) (kr : (List Ev.Cnt) × ((List Ev.Cnt) × Unit) × ((List Ev.Cnt) × Unit) × (Int × Unit) × (Bool × Unit) × Unit → Option ρ) : (List Ev.Cnt) × Int × Int × (List Ev.Cnt) × Int × Int × (List Ev.Cnt) × (Ev.Cnt × Unit) × ((List Ev.Cnt) × Unit) × ((List Ev.Cnt) × Unit) × (Int × Unit) × (Bool × Unit) × Unit → Option ρ :=
  fun (v14, v15, v16, v17, v18, v19, o20, o21, o22, o23, o24, o25, _) => 
  (bif decide ((v19 : Int) < v18) then 
  (ix v17 v19).bind fun x26 => 
  (lsl o21.1.r 0 o24.1).bind fun l29 => 
  (lsl x26.r 0 o24.1).bind fun l30 => 
  (bag_Compare n (l29, l30, ())).bind fun (y31, _) => 
  (bif (y31 : Int) == 0 then 
  (lsl o21.1.r 0 o24.1).bind fun l32 => 
  (sl_ContainsFunc_W_V_bag_Join_1_1 n (l32, ())).bind fun (y33, _) => 
  (bif !y33 then 
  (bag_size (x26.n, ())).bind fun (y34, _) => 
  (bag_size (o21.1.n, ())).bind fun (y35, _) => 
  (nz? y35).bind fun q36 => 
  (bif decide ((y34 : Int) > (bquo .i64 1099511627776 q36)) then kr (([] : List Ev.Cnt), (o22.1, ()), (o23.1, ()), (o24.1, ()), (true, ()), ())
  else 
  (lsl x26.r o24.1 (x26.r.length : Int)).bind fun l38 => 
  (sl_Concat_W_V n (([o21.1.r, l38] : List (List Ev.Val)), ())).bind fun (y39, _) => 
  ck (room (o20 ++ ([(Ev.Cnt.mk y39 (IntKind.wrap .i64 (o21.1.n * x26.n)))] : List Ev.Cnt)).length 32) (rec (v14, v15, v16, v17, v18, IntKind.wrap .i64 (v19 + 1), o20 ++ ([(Ev.Cnt.mk y39 (IntKind.wrap .i64 (o21.1.n * x26.n)))] : List Ev.Cnt), ((Ev.Cnt.mk o21.1.r o21.1.n), ()), (o22.1, ()), (o23.1, ()), (o24.1, ()), (o25.1, ()), ())))
  else rec (v14, v15, v16, v17, v18, IntKind.wrap .i64 (v19 + 1), o20, ((Ev.Cnt.mk o21.1.r o21.1.n), ()), (o22.1, ()), (o23.1, ()), (o24.1, ()), (o25.1, ()), ()))
  else rec (v14, v15, v16, v17, v18, IntKind.wrap .i64 (v19 + 1), o20, ((Ev.Cnt.mk o21.1.r o21.1.n), ()), (o22.1, ()), (o23.1, ()), (o24.1, ()), (o25.1, ()), ()))
  else kx (v14, v15, v16, o20, (o22.1, ()), (o23.1, ()), (o24.1, ()), (o25.1, ()), ()))

/-- a round of a loop of bag.Join$1 -/
noncomputable def bag_Join_1_s0 {ρ : Type} (n : Nat) (rec : (List Ev.Cnt) × Int × Int × (List Ev.Cnt) × ((List Ev.Cnt) × Unit) × ((List Ev.Cnt) × Unit) × (Int × Unit) × (Bool × Unit) × Unit → Option ρ) (kx : (List Ev.Cnt) × ((List Ev.Cnt) × Unit) × ((List Ev.Cnt) × Unit) × (Int × Unit) × (Bool × Unit) × Unit → Option ρ) (kr : (List Ev.Cnt) × ((List Ev.Cnt) × Unit) × ((List Ev.Cnt) × Unit) × (Int × Unit) × (Bool × Unit) × Unit → Option ρ) : (List Ev.Cnt) × Int × Int × (List Ev.Cnt) × ((List Ev.Cnt) × Unit) × ((List Ev.Cnt) × Unit) × (Int × Unit) × (Bool × Unit) × Unit → Option ρ :=
  fun (v5, v6, v7, o8, o9, o10, o11, o12, _) => 
  (bif decide ((v7 : Int) < v6) then 
  (ix v5 v7).bind fun x13 => 
  iterN (fun rc53 => bag_Join_1_s2 n rc53 (fun (v40, v41, v42, o43, o44, o45, o46, o47, _) => rec (v40, v41, IntKind.wrap .i64 (v42 + 1), o43, (o44.1, ()), (o45.1, ()), (o46.1, ()), (o47.1, ()), ())) (fun (v48, o49, o50, o51, o52, _) => kr (v48, (o49.1, ()), (o50.1, ()), (o51.1, ()), (o52.1, ()), ()))) (n) (v5, v6, v7, o10.1, (o10.1.length : Int), 0, o8, ((Ev.Cnt.mk x13.r x13.n), ()), (o9.1, ()), (o10.1, ()), (o11.1, ()), (o12.1, ()), ())
  else kx (o8, (o9.1, ()), (o10.1, ()), (o11.1, ()), (o12.1, ()), ()))

noncomputable def F_bag_Join_1_s2 {ρ : Type} (n : Nat) (kr : (List Ev.Cnt) × ((List Ev.Cnt) × Unit) × ((List Ev.Cnt) × Unit) × (Int × Unit) × (Bool × Unit) × Unit → Option ρ) : Int → Ev.Cnt → ((List Ev.Cnt) × Int × Int × (List Ev.Cnt) × (Ev.Cnt × Unit) × ((List Ev.Cnt) × Unit) × ((List Ev.Cnt) × Unit) × (Int × Unit) × (Bool × Unit) × Unit) → (((List Ev.Cnt) × Int × Int × (List Ev.Cnt) × (Ev.Cnt × Unit) × ((List Ev.Cnt) × Unit) × ((List Ev.Cnt) × Unit) × (Int × Unit) × (Bool × Unit) × Unit) → Option ρ) → Option ρ :=
  fun v19 x26 (v14, v15, v16, o20, o21, o22, o23, o24, o25, _) rec =>  
  (lsl o21.1.r 0 o24.1).bind fun l29 => 
  (lsl x26.r 0 o24.1).bind fun l30 => 
  (bag_Compare n (l29, l30, ())).bind fun (y31, _) => 
  (bif (y31 : Int) == 0 then 
  (lsl o21.1.r 0 o24.1).bind fun l32 => 
  (sl_ContainsFunc_W_V_bag_Join_1_1 n (l32, ())).bind fun (y33, _) => 
  (bif !y33 then 
  (bag_size (x26.n, ())).bind fun (y34, _) => 
  (bag_size (o21.1.n, ())).bind fun (y35, _) => 
  (nz? y35).bind fun q36 => 
  (bif decide ((y34 : Int) > (bquo .i64 1099511627776 q36)) then kr (([] : List Ev.Cnt), (o22.1, ()), (o23.1, ()), (o24.1, ()), (true, ()), ())
  else 
  (lsl x26.r o24.1 (x26.r.length : Int)).bind fun l38 => 
  (sl_Concat_W_V n (([o21.1.r, l38] : List (List Ev.Val)), ())).bind fun (y39, _) => 
  ck (room (o20 ++ ([(Ev.Cnt.mk y39 (IntKind.wrap .i64 (o21.1.n * x26.n)))] : List Ev.Cnt)).length 32) (rec (v14, v15, v16, o20 ++ ([(Ev.Cnt.mk y39 (IntKind.wrap .i64 (o21.1.n * x26.n)))] : List Ev.Cnt), ((Ev.Cnt.mk o21.1.r o21.1.n), ()), (o22.1, ()), (o23.1, ()), (o24.1, ()), (o25.1, ()), ())))
  else rec (v14, v15, v16, o20, ((Ev.Cnt.mk o21.1.r o21.1.n), ()), (o22.1, ()), (o23.1, ()), (o24.1, ()), (o25.1, ()), ()))
  else rec (v14, v15, v16, o20, ((Ev.Cnt.mk o21.1.r o21.1.n), ()), (o22.1, ()), (o23.1, ()), (o24.1, ()), (o25.1, ()), ()))

theorem R_bag_Join_1_s2 {ρ : Type} (n : Nat) (kx : (List Ev.Cnt) × Int × Int × (List Ev.Cnt) × ((List Ev.Cnt) × Unit) × ((List Ev.Cnt) × Unit) × (Int × Unit) × (Bool × Unit) × Unit → Option ρ) (kr : (List Ev.Cnt) × ((List Ev.Cnt) × Unit) × ((List Ev.Cnt) × Unit) × (Int × Unit) × (Bool × Unit) × Unit → Option ρ) (l : List Ev.Cnt) (fuel : Nat) (v14 : List Ev.Cnt) (v15 : Int) (v16 : Int) (o20 : List Ev.Cnt) (o21 : Ev.Cnt × Unit) (o22 : (List Ev.Cnt) × Unit) (o23 : (List Ev.Cnt) × Unit) (o24 : Int × Unit) (o25 : Bool × Unit) (hl : l.length ≤ 9223372036854775807) (hf : l.length < fuel) :
    iterN (fun rc => bag_Join_1_s2 n rc kx kr) fuel (v14, v15, v16, l, (l.length : Int), 0, o20, o21, o22, o23, o24, o25, ()) = foldK (F_bag_Join_1_s2 n kr) (fun (v14, v15, v16, o20, o21, o22, o23, o24, o25, _) => kx (v14, v15, v16, o20, (o22.1, ()), (o23.1, ()), (o24.1, ()), (o25.1, ()), ())) 0 l (v14, v15, v16, o20, o21, o22, o23, o24, o25, ()) :=
  range_listM l (fun i (v14, v15, v16, o20, o21, o22, o23, o24, o25, _) => (v14, v15, v16, l, (l.length : Int), i, o20, o21, o22, o23, o24, o25, ())) _ _ _ (fun rec i s => rfl) hl fuel (v14, v15, v16, o20, o21, o22, o23, o24, o25, ()) hf

/-- bag.Join$1 -/
noncomputable def bag_Join_1 (n : Nat) : ((List Ev.Cnt) × Unit) × ((List Ev.Cnt) × Unit) × (Int × Unit) × (Bool × Unit) × Unit → Option ((List Ev.Cnt) × ((List Ev.Cnt) × Unit) × ((List Ev.Cnt) × Unit) × (Int × Unit) × (Bool × Unit) × Unit) :=
  fun (o1, o2, o3, o4, _) => 
  iterN (fun rc65 => bag_Join_1_s0 n rc65 (fun (o54, o55, o56, o57, o58, _) => 
  (bag_Gather n (o54, ())).bind fun (y64, _) => some (y64, (o55.1, ()), (o56.1, ()), (o57.1, ()), (o58.1, ()), ())) (fun (v59, o60, o61, o62, o63, _) => some (v59, (o60.1, ()), (o61.1, ()), (o62.1, ()), (o63.1, ()), ()))) (n) (o1.1, (o1.1.length : Int), 0, ([] : List Ev.Cnt), (o1.1, ()), (o2.1, ()), (o3.1, ()), (o4.1, ()), ())

/-- a round of a loop of bag.both -/
noncomputable def bag_both_bag_Join_1_c_s0 {ρ : Type} (n : Nat) (rec : ((List Ev.Cnt) × (List Ev.Cnt)) × Int × ((List Ev.Cnt) × Unit) × ((List Ev.Cnt) × Unit) × (Int × Unit) × (Bool × Unit) × Unit → Option ρ) (kx : ((List Ev.Cnt) × Unit) × ((List Ev.Cnt) × Unit) × (Int × Unit) × (Bool × Unit) × Unit → Option ρ) (kr : (List Ev.Cnt) × Int × ((List Ev.Cnt) × Unit) × ((List Ev.Cnt) × Unit) × (Int × Unit) × (Bool × Unit) × Unit → Option ρ) : ((List Ev.Cnt) × (List Ev.Cnt)) × Int × ((List Ev.Cnt) × Unit) × ((List Ev.Cnt) × Unit) × (Int × Unit) × (Bool × Unit) × Unit → Option ρ :=
  fun (v7, v8, o9, o10, o11, o12, _) => 
  (bif decide ((v8 : Int) < 2) then 
  (ix ([v7.1, v7.2] : List (List Ev.Cnt)) v8).bind fun x13 => 
  (bag_Check n (x13, ())).bind fun (y14, _) => 
  (bif (y14 : Int) != 0 then kr (([] : List Ev.Cnt), y14, (o9.1, ()), (o10.1, ()), (o11.1, ()), (o12.1, ()), ())
  else rec ((v7.1, v7.2), IntKind.wrap .i64 (v8 + 1), (o9.1, ()), (o10.1, ()), (o11.1, ()), (o12.1, ()), ()))
  else kx ((o9.1, ()), (o10.1, ()), (o11.1, ()), (o12.1, ()), ()))

/-- bag.both -/
noncomputable def bag_both_bag_Join_1_c (n : Nat) : (List Ev.Cnt) × (List Ev.Cnt) × ((List Ev.Cnt) × Unit) × ((List Ev.Cnt) × Unit) × (Int × Unit) × (Bool × Unit) × Unit → Option ((List Ev.Cnt) × Int × ((List Ev.Cnt) × Unit) × ((List Ev.Cnt) × Unit) × (Int × Unit) × (Bool × Unit) × Unit) :=
  fun (a1, a2, o3, o4, o5, o6, _) => 
  iterN (fun rc31 => bag_both_bag_Join_1_c_s0 n rc31 (fun (o15, o16, o17, o18, _) => 
  (bag_Join_1 n ((o15.1, ()), (o16.1, ()), (o17.1, ()), (o18.1, ()), ())).bind fun (y25, o26, o27, o28, o29, _) => 
  (bag_Check n (y25, ())).bind fun (y30, _) => 
  (bif (y30 : Int) != 0 then some (([] : List Ev.Cnt), y30, (o26.1, ()), (o27.1, ()), (o28.1, ()), (o29.1, ()), ())
  else some (y25, 0, (o26.1, ()), (o27.1, ()), (o28.1, ()), (o29.1, ()), ()))) (fun (v19, v20, o21, o22, o23, o24, _) => some (v19, v20, (o21.1, ()), (o22.1, ()), (o23.1, ()), (o24.1, ()), ()))) (n) ((a1, a2), 0, (o3.1, ()), (o4.1, ()), (o5.1, ()), (o6.1, ()), ())

/-- a round of a loop of bag.Join -/
noncomputable def bag_Join_s2 {ρ : Type} (n : Nat) (rec : ((List Ev.Cnt) × (List Ev.Cnt)) × Int × (List Ev.Cnt) × Int × Int × ((List Ev.Cnt) × Unit) × ((List Ev.Cnt) × Unit) × (Int × Unit) × Unit → Option ρ) (kx : ((List Ev.Cnt) × (List Ev.Cnt)) × Int × ((List Ev.Cnt) × Unit) × ((List Ev.Cnt) × Unit) × (Int × Unit) × Unit → Option ρ) (kr : (List Ev.Cnt) × Int × Unit → Option ρ) : ((List Ev.Cnt) × (List Ev.Cnt)) × Int × (List Ev.Cnt) × Int × Int × ((List Ev.Cnt) × Unit) × ((List Ev.Cnt) × Unit) × (Int × Unit) × Unit → Option ρ :=
  fun (v10, v11, v12, v13, v14, o15, o16, o17, _) => 
  (bif decide ((v14 : Int) < v13) then 
  (ix v12 v14).bind fun x18 => 
  (bif decide (((x18.r.length : Int) : Int) < o17.1) then kr (([] : List Ev.Cnt), 9, ())
  else rec ((v10.1, v10.2), v11, v12, v13, IntKind.wrap .i64 (v14 + 1), (o15.1, ()), (o16.1, ()), (o17.1, ()), ()))
  else kx ((v10.1, v10.2), v11, (o15.1, ()), (o16.1, ()), (o17.1, ()), ()))

/-- a round of a loop of bag.Join -/
noncomputable def bag_Join_s0 {ρ : Type} (n : Nat) (rec : ((List Ev.Cnt) × (List Ev.Cnt)) × Int × ((List Ev.Cnt) × Unit) × ((List Ev.Cnt) × Unit) × (Int × Unit) × Unit → Option ρ) (kx : ((List Ev.Cnt) × Unit) × ((List Ev.Cnt) × Unit) × (Int × Unit) × Unit → Option ρ) (kr : (List Ev.Cnt) × Int × Unit → Option ρ) : ((List Ev.Cnt) × (List Ev.Cnt)) × Int × ((List Ev.Cnt) × Unit) × ((List Ev.Cnt) × Unit) × (Int × Unit) × Unit → Option ρ :=
  fun (v4, v5, o6, o7, o8, _) => 
  (bif decide ((v5 : Int) < 2) then 
  (ix ([v4.1, v4.2] : List (List Ev.Cnt)) v5).bind fun x9 => 
  iterN (fun rc26 => bag_Join_s2 n rc26 (fun (v19, v20, o21, o22, o23, _) => rec ((v19.1, v19.2), IntKind.wrap .i64 (v20 + 1), (o21.1, ()), (o22.1, ()), (o23.1, ()), ())) (fun (v24, v25, _) => kr (v24, v25, ()))) (n) ((v4.1, v4.2), v5, x9, (x9.length : Int), 0, (o6.1, ()), (o7.1, ()), (o8.1, ()), ())
  else kx ((o6.1, ()), (o7.1, ()), (o8.1, ()), ()))

noncomputable def F_bag_Join_s2 {ρ : Type} (n : Nat) (kr : (List Ev.Cnt) × Int × Unit → Option ρ) : Int → Ev.Cnt → (((List Ev.Cnt) × (List Ev.Cnt)) × Int × ((List Ev.Cnt) × Unit) × ((List Ev.Cnt) × Unit) × (Int × Unit) × Unit) → ((((List Ev.Cnt) × (List Ev.Cnt)) × Int × ((List Ev.Cnt) × Unit) × ((List Ev.Cnt) × Unit) × (Int × Unit) × Unit) → Option ρ) → Option ρ :=
  fun v14 x18 (v10, v11, o15, o16, o17, _) rec =>  
  (bif decide (((x18.r.length : Int) : Int) < o17.1) then kr (([] : List Ev.Cnt), 9, ())
  else rec ((v10.1, v10.2), v11, (o15.1, ()), (o16.1, ()), (o17.1, ()), ()))

theorem R_bag_Join_s2 {ρ : Type} (n : Nat) (kx : ((List Ev.Cnt) × (List Ev.Cnt)) × Int × ((List Ev.Cnt) × Unit) × ((List Ev.Cnt) × Unit) × (Int × Unit) × Unit → Option ρ) (kr : (List Ev.Cnt) × Int × Unit → Option ρ) (l : List Ev.Cnt) (fuel : Nat) (v10 : (List Ev.Cnt) × (List Ev.Cnt)) (v11 : Int) (o15 : (List Ev.Cnt) × Unit) (o16 : (List Ev.Cnt) × Unit) (o17 : Int × Unit) (hl : l.length ≤ 9223372036854775807) (hf : l.length < fuel) :
    iterN (fun rc => bag_Join_s2 n rc kx kr) fuel (v10, v11, l, (l.length : Int), 0, o15, o16, o17, ()) = foldK (F_bag_Join_s2 n kr) (fun (v10, v11, o15, o16, o17, _) => kx ((v10.1, v10.2), v11, (o15.1, ()), (o16.1, ()), (o17.1, ()), ())) 0 l (v10, v11, o15, o16, o17, ()) :=
  range_listM l (fun i (v10, v11, o15, o16, o17, _) => (v10, v11, l, (l.length : Int), i, o15, o16, o17, ())) _ _ _ (fun rec i s => rfl) hl fuel (v10, v11, o15, o16, o17, ()) hf

/-- bag.Join -/
noncomputable def bag_Join (n : Nat) : (List Ev.Cnt) × (List Ev.Cnt) × Int × Unit → Option ((List Ev.Cnt) × Int × Unit) :=
  fun (a1, a2, a3, _) => 
  (bif (decide ((a3 : Int) < 0)) || (decide ((a3 : Int) > 30)) then some (([] : List Ev.Cnt), 9, ())
  else 
  iterN (fun rc38 => bag_Join_s0 n rc38 (fun (o27, o28, o29, _) => 
  (bif decide ((IntKind.wrap .i64 ((o27.1.length : Int) * (o28.1.length : Int)) : Int) > 20000) then some (([] : List Ev.Cnt), 2, ())
  else 
  (bag_both_bag_Join_1_c n (o27.1, o28.1, (o27.1, ()), (o28.1, ()), (o29.1, ()), (false, ()), ())).bind fun (y32, y33, o34, o35, o36, o37, _) => 
  (bif o37.1 then some (([] : List Ev.Cnt), 9, ())
  else some (y32, y33, ())))) (fun (v30, v31, _) => some (v30, v31, ()))) (n) ((a1, a2), 0, (a1, ()), (a2, ()), (a3, ()), ()))

/-- a round of a loop of espalierref.CheckValue -/
noncomputable def eR_CheckValue_s1 {ρ : Type} (self_eR_CheckValue : Ev.Val × Int × Unit → Option (Int × Unit)) (n : Nat) (rec : Int × Bool × Bool × (List Ev.Val) × Int × Int × Unit → Option ρ) (kx : Bool × Bool × Unit → Option ρ) (kr : Int × Unit → Option ρ) : Int × Bool × Bool × (List Ev.Val) × Int × Int × Unit → Option ρ :=
  fun (v3, v4, v5, v6, v7, v8, _) => 
  (bif decide ((v8 : Int) < v7) then 
  (ix v6 v8).bind fun x9 => 
  (self_eR_CheckValue ((Ev.Val.mk x9.kind x9.n x9.s x9.l), IntKind.wrap .i64 (v3 + 1), ())).bind fun (y10, _) => 
  (bif (y10 : Int) != 0 then kr (y10, ())
  else rec (v3, v4, v5, v6, v7, IntKind.wrap .i64 (v8 + 1), ()))
  else kx (v4, v5, ()))

noncomputable def F_eR_CheckValue_s1 {ρ : Type} (self_eR_CheckValue : Ev.Val × Int × Unit → Option (Int × Unit)) (n : Nat) (kr : Int × Unit → Option ρ) : Int → Ev.Val → (Int × Bool × Bool × Unit) → ((Int × Bool × Bool × Unit) → Option ρ) → Option ρ :=
  fun v8 x9 (v3, v4, v5, _) rec =>  
  (self_eR_CheckValue ((Ev.Val.mk x9.kind x9.n x9.s x9.l), IntKind.wrap .i64 (v3 + 1), ())).bind fun (y10, _) => 
  (bif (y10 : Int) != 0 then kr (y10, ())
  else rec (v3, v4, v5, ()))

theorem R_eR_CheckValue_s1 {ρ : Type} (self_eR_CheckValue : Ev.Val × Int × Unit → Option (Int × Unit)) (n : Nat) (kx : Bool × Bool × Unit → Option ρ) (kr : Int × Unit → Option ρ) (l : List Ev.Val) (fuel : Nat) (v3 : Int) (v4 : Bool) (v5 : Bool) (hl : l.length ≤ 9223372036854775807) (hf : l.length < fuel) :
    iterN (fun rc => eR_CheckValue_s1 self_eR_CheckValue n rc kx kr) fuel (v3, v4, v5, l, (l.length : Int), 0, ()) = foldK (F_eR_CheckValue_s1 self_eR_CheckValue n kr) (fun (v3, v4, v5, _) => kx (v4, v5, ())) 0 l (v3, v4, v5, ()) :=
  range_listM l (fun i (v3, v4, v5, _) => (v3, v4, v5, l, (l.length : Int), i, ())) _ _ _ (fun rec i s => rfl) hl fuel (v3, v4, v5, ()) hf

/-- espalierref.CheckValue -/
noncomputable def eR_CheckValue_b (self_eR_CheckValue : Ev.Val × Int × Unit → Option (Int × Unit)) (n : Nat) : Ev.Val × Int × Unit → Option (Int × Unit) :=
  fun (a1, a2, _) => 
  (bif (a1.kind : Int) == 4 then 
  (bif (decide (((a1.l.length : Int) : Int) > 30)) || (decide ((a2 : Int) > 6)) then some (2, ())
  else 
  iterN (fun rc14 => eR_CheckValue_s1 self_eR_CheckValue n rc14 (fun (v11, v12, _) => 
  (bif v11 && v12 then some (0, ())
  else some (6, ()))) (fun (v13, _) => some (v13, ()))) (n) (a2, (a1.n : Int) == 0, seq a1.s (⟨#[]⟩ : ByteArray), a1.l, (a1.l.length : Int), 0, ()))
  else 
  (bif (a1.kind : Int) == 3 then 
  (bif decide (((a1.s.size : Int) : Int) > 4000) then some (2, ())
  else 
  (bif ((a1.n : Int) == 0) && (((a1.l.length : Int) : Int) == 0) then 
  (validN (a1.s, ())).bind fun (y15, _) => 
  (bif y15 then some (0, ())
  else some (6, ()))
  else some (6, ())))
  else 
  (bif (a1.kind : Int) == 0 then 
  (bif (((a1.n : Int) == 0) && (seq a1.s (⟨#[]⟩ : ByteArray))) && (((a1.l.length : Int) : Int) == 0) then some (0, ())
  else some (6, ()))
  else 
  (bif (a1.kind : Int) == 1 then 
  (bif ((((a1.n : Int) == 0) || ((a1.n : Int) == 1)) && (seq a1.s (⟨#[]⟩ : ByteArray))) && (((a1.l.length : Int) : Int) == 0) then some (0, ())
  else some (6, ()))
  else 
  (bif (a1.kind : Int) == 2 then 
  (bif (seq a1.s (⟨#[]⟩ : ByteArray)) && (((a1.l.length : Int) : Int) == 0) then some (0, ())
  else some (6, ()))
  else some (6, ()))))))

noncomputable def eR_CheckValue : Nat → Ev.Val × Int × Unit → Option (Int × Unit)
  | 0, _ => none
  | n + 1, x => eR_CheckValue_b (eR_CheckValue n) n x

/-- bytes.Compare -/
noncomputable def bytes_Compare : (List Int) × (List Int) × Unit → Option (Int × Unit) :=
  fun (a1, a2, _) => 
  (cmpN (a1, a2, ())).bind fun (y3, _) => some (y3, ())

/-- a round of a loop of espalierref.OrderOf -/
noncomputable def eR_OrderOf_s1 {ρ : Type} (self_eR_OrderOf : Ev.Val × Ev.Val × Unit → Option (Int × Unit)) (n : Nat) (rec : Int × (Ev.Val × Unit) × (Ev.Val × Unit) × Unit → Option ρ) (kx : (Ev.Val × Unit) × (Ev.Val × Unit) × Unit → Option ρ) (kr : Int × Unit → Option ρ) : Int × (Ev.Val × Unit) × (Ev.Val × Unit) × Unit → Option ρ :=
  fun (v4, o5, o6, _) => 
  (bif (decide ((v4 : Int) < (o5.1.l.length : Int))) && (decide ((v4 : Int) < (o6.1.l.length : Int))) then 
  (ix o5.1.l v4).bind fun x9 => 
  (ix o6.1.l v4).bind fun x10 => 
  (self_eR_OrderOf ((Ev.Val.mk x9.kind x9.n x9.s x9.l), (Ev.Val.mk x10.kind x10.n x10.s x10.l), ())).bind fun (y11, _) => 
  (bif (y11 : Int) != 0 then kr (y11, ())
  else rec (IntKind.wrap .i64 (v4 + 1), ((Ev.Val.mk o5.1.kind o5.1.n o5.1.s o5.1.l), ()), ((Ev.Val.mk o6.1.kind o6.1.n o6.1.s o6.1.l), ()), ()))
  else kx (((Ev.Val.mk o5.1.kind o5.1.n o5.1.s o5.1.l), ()), ((Ev.Val.mk o6.1.kind o6.1.n o6.1.s o6.1.l), ()), ()))

/-- espalierref.OrderOf -/
noncomputable def eR_OrderOf_b (self_eR_OrderOf : Ev.Val × Ev.Val × Unit → Option (Int × Unit)) (n : Nat) : Ev.Val × Ev.Val × Unit → Option (Int × Unit) :=
  fun (a1, a2, _) => 
  (bif decide ((a1.kind : Int) < a2.kind) then some ((-1), ())
  else 
  (bif decide ((a1.kind : Int) > a2.kind) then some (1, ())
  else 
  (bif decide ((a1.n : Int) < a2.n) then some ((-1), ())
  else 
  (bif decide ((a1.n : Int) > a2.n) then some (1, ())
  else 
  (bif !(seq a1.s a2.s) then 
  (bytes_Compare (bytesI a1.s, bytesI a2.s, ())).bind fun (y3, _) => some (y3, ())
  else 
  iterN (fun rc15 => eR_OrderOf_s1 self_eR_OrderOf n rc15 (fun (o12, o13, _) => 
  (bif decide (((o12.1.l.length : Int) : Int) < (o13.1.l.length : Int)) then some ((-1), ())
  else 
  (bif decide (((o12.1.l.length : Int) : Int) > (o13.1.l.length : Int)) then some (1, ())
  else some (0, ())))) (fun (v14, _) => some (v14, ()))) (n) (0, ((Ev.Val.mk a1.kind a1.n a1.s a1.l), ()), ((Ev.Val.mk a2.kind a2.n a2.s a2.l), ()), ()))))))

noncomputable def eR_OrderOf : Nat → Ev.Val × Ev.Val × Unit → Option (Int × Unit)
  | 0, _ => none
  | n + 1, x => eR_OrderOf_b (eR_OrderOf n) n x

/-- espalierref.CompareRows -/
noncomputable def eR_CompareRows (n : Nat) : (List Ev.Val) × (List Ev.Val) × Unit → Option (Int × Unit) :=
  fun (a1, a2, _) => 
  (eR_OrderOf n ((Ev.Val.mk 4 0 (⟨#[]⟩ : ByteArray) a1), (Ev.Val.mk 4 0 (⟨#[]⟩ : ByteArray) a2), ())).bind fun (y3, _) => some (y3, ())

/-- a round of a loop of espalierref.CheckBag -/
noncomputable def eR_CheckBag_s2 {ρ : Type} (n : Nat) (rec : (List Ev.Cnt) × Int × (List Ev.Cnt) × Int × Int × (List Ev.Val) × Int × Int × (Ev.Cnt × Unit) × Unit → Option ρ) (kx : (List Ev.Cnt) × Int × (List Ev.Cnt) × Int × Int × (Ev.Cnt × Unit) × Unit → Option ρ) (kr : Int × Unit → Option ρ) : (List Ev.Cnt) × Int × (List Ev.Cnt) × Int × Int × (List Ev.Val) × Int × Int × (Ev.Cnt × Unit) × Unit → Option ρ :=
  fun (v7, v8, v9, v10, v11, v12, v13, v14, o15, _) => 
  (bif decide ((v14 : Int) < v13) then 
  (ix v12 v14).bind fun x16 => 
  (eR_CheckValue n ((Ev.Val.mk x16.kind x16.n x16.s x16.l), 1, ())).bind fun (y17, _) => 
  (bif (y17 : Int) != 0 then kr (y17, ())
  else rec (v7, v8, v9, v10, v11, v12, v13, IntKind.wrap .i64 (v14 + 1), ((Ev.Cnt.mk o15.1.r o15.1.n), ()), ()))
  else kx (v7, v8, v9, v10, v11, ((Ev.Cnt.mk o15.1.r o15.1.n), ()), ()))

/-- a round of a loop of espalierref.CheckBag -/
noncomputable def eR_CheckBag_s0 {ρ : Type} (n : Nat) (rec : (List Ev.Cnt) × (List Ev.Cnt) × Int × Int × Unit → Option ρ) (kx : Unit → Option ρ) (kr : Int × Unit → Option ρ) : (List Ev.Cnt) × (List Ev.Cnt) × Int × Int × Unit → Option ρ :=
  fun (v2, v3, v4, v5, _) => 
  (bif decide ((v5 : Int) < v4) then 
  (ix v3 v5).bind fun x6 => 
  (bif decide (((x6.r.length : Int) : Int) > 30) then kr (2, ())
  else 
  iterN (fun rc27 => eR_CheckBag_s2 n rc27 (fun (v18, v19, v20, v21, v22, o23, _) => 
  (bif (o23.1.n : Int) == 0 then kr (6, ())
  else 
  (bif decide ((v19 : Int) > 0) then 
  (ix v18 (IntKind.wrap .i64 (v19 - 1))).bind fun x25 => 
  (eR_CompareRows n (x25.r, o23.1.r, ())).bind fun (y26, _) => 
  (bif decide ((y26 : Int) ≥ 0) then kr (6, ())
  else 
  (bif (decide ((o23.1.n : Int) > 1099511627776)) || (decide ((o23.1.n : Int) < (-1099511627776))) then kr (9, ())
  else rec (v18, v20, v21, IntKind.wrap .i64 (v22 + 1), ())))
  else 
  (bif (decide ((o23.1.n : Int) > 1099511627776)) || (decide ((o23.1.n : Int) < (-1099511627776))) then kr (9, ())
  else rec (v18, v20, v21, IntKind.wrap .i64 (v22 + 1), ()))))) (fun (v24, _) => kr (v24, ()))) (n) (v2, v5, v3, v4, v5, x6.r, (x6.r.length : Int), 0, ((Ev.Cnt.mk x6.r x6.n), ()), ()))
  else kx (()))

noncomputable def F_eR_CheckBag_s2 {ρ : Type} (n : Nat) (kr : Int × Unit → Option ρ) : Int → Ev.Val → ((List Ev.Cnt) × Int × (List Ev.Cnt) × Int × Int × (Ev.Cnt × Unit) × Unit) → (((List Ev.Cnt) × Int × (List Ev.Cnt) × Int × Int × (Ev.Cnt × Unit) × Unit) → Option ρ) → Option ρ :=
  fun v14 x16 (v7, v8, v9, v10, v11, o15, _) rec =>  
  (eR_CheckValue n ((Ev.Val.mk x16.kind x16.n x16.s x16.l), 1, ())).bind fun (y17, _) => 
  (bif (y17 : Int) != 0 then kr (y17, ())
  else rec (v7, v8, v9, v10, v11, ((Ev.Cnt.mk o15.1.r o15.1.n), ()), ()))

theorem R_eR_CheckBag_s2 {ρ : Type} (n : Nat) (kx : (List Ev.Cnt) × Int × (List Ev.Cnt) × Int × Int × (Ev.Cnt × Unit) × Unit → Option ρ) (kr : Int × Unit → Option ρ) (l : List Ev.Val) (fuel : Nat) (v7 : List Ev.Cnt) (v8 : Int) (v9 : List Ev.Cnt) (v10 : Int) (v11 : Int) (o15 : Ev.Cnt × Unit) (hl : l.length ≤ 9223372036854775807) (hf : l.length < fuel) :
    iterN (fun rc => eR_CheckBag_s2 n rc kx kr) fuel (v7, v8, v9, v10, v11, l, (l.length : Int), 0, o15, ()) = foldK (F_eR_CheckBag_s2 n kr) (fun (v7, v8, v9, v10, v11, o15, _) => kx (v7, v8, v9, v10, v11, ((Ev.Cnt.mk o15.1.r o15.1.n), ()), ())) 0 l (v7, v8, v9, v10, v11, o15, ()) :=
  range_listM l (fun i (v7, v8, v9, v10, v11, o15, _) => (v7, v8, v9, v10, v11, l, (l.length : Int), i, o15, ())) _ _ _ (fun rec i s => rfl) hl fuel (v7, v8, v9, v10, v11, o15, ()) hf

/-- espalierref.CheckBag -/
noncomputable def eR_CheckBag (n : Nat) : (List Ev.Cnt) × Unit → Option (Int × Unit) :=
  fun (a1, _) => 
  (bif decide (((a1.length : Int) : Int) > 2000) then some (2, ())
  else 
  iterN (fun rc29 => eR_CheckBag_s0 n rc29 (fun (_) => some (0, ())) (fun (v28, _) => some (v28, ()))) (n) (a1, a1, (a1.length : Int), 0, ()))

/-- espalierref.SameValue -/
noncomputable def eR_SameValue (n : Nat) : Ev.Val × Ev.Val × Unit → Option (Bool × Unit) :=
  fun (a1, a2, _) => 
  (eR_OrderOf n ((Ev.Val.mk a1.kind a1.n a1.s a1.l), (Ev.Val.mk a2.kind a2.n a2.s a2.l), ())).bind fun (y3, _) => some ((y3 : Int) == 0, ())

/-- espalierlaw.num -/
noncomputable def eL_num : Int × Unit → Option (Ev.Val × Unit) :=
  fun (a1, _) => some ((Ev.Val.mk 2 a1 (⟨#[]⟩ : ByteArray) ([] : List Ev.Val)), ())

/-- a round of a loop of espalierbig.trim -/
noncomputable def eB_trim_s0 {ρ : Type} (n : Nat) (rec : (List Int) × Int × Unit → Option ρ) (kx : (List Int) × Int × Unit → Option ρ) (kr : Unit → Option ρ) : (List Int) × Int × Unit → Option ρ :=
  fun (v2, v3, _) => 
  (bif decide ((v3 : Int) > 0) then 
  (ix v2 (IntKind.wrap .i64 (v3 - 1))).bind fun x4 => 
  (bif (x4 : Int) == 0 then rec (v2, IntKind.wrap .i64 (v3 - 1), ())
  else kx (v2, v3, ()))
  else kx (v2, v3, ()))

/-- espalierbig.trim -/
noncomputable def eB_trim (n : Nat) : (List Int) × Unit → Option ((List Int) × Unit) :=
  fun (a1, _) => 
  iterN (fun rc8 => eB_trim_s0 n rc8 (fun (v5, v6, _) => 
  (lsl v5 0 v6).bind fun l7 => some (l7, ())) (fun (_) => none)) (n) (a1, (a1.length : Int), ())

/-- espalierbig.words -/
noncomputable def eB_words (n : Nat) : Int × Unit → Option ((List Int) × Unit) :=
  fun (a1, _) => 
  (eB_trim n (([IntKind.wrap .u32 (a1), IntKind.wrap .u32 (bshr .u64 a1 32)] : List Int), ())).bind fun (y2, _) => some (y2, ())

/-- (*espalierbig.Int).give -/
noncomputable def peB_Int_give : Bool × (List Int) × (Bool × (List Int) × Unit) × Unit → Option ((Bool × (List Int) × Unit) × Unit) :=
  fun (a1, a2, o3, _) => some ((a1 && (decide (((a2.length : Int) : Int) > 0)), a2, ()), ())

/-- (*espalierbig.Int).SetInt64 -/
noncomputable def peB_Int_SetInt64 (n : Nat) : Int × (Bool × (List Int) × Unit) × Unit → Option ((Bool × (List Int) × Unit) × Unit) :=
  fun (a1, o2, _) => 
  (bif decide ((a1 : Int) < 0) then 
  (eB_words n (IntKind.wrap .u64 (0 - (IntKind.wrap .u64 (a1))), ())).bind fun (y3, _) => 
  (peB_Int_give (decide ((a1 : Int) < 0), y3, (o2.1, o2.2.1, ()), ())).bind fun (o4, _) => some ((o4.1, o4.2.1, ()), ())
  else 
  (eB_words n (IntKind.wrap .u64 (a1), ())).bind fun (y5, _) => 
  (peB_Int_give (decide ((a1 : Int) < 0), y5, (o2.1, o2.2.1, ()), ())).bind fun (o6, _) => some ((o6.1, o6.2.1, ()), ()))

/-- espalierbig.NewInt -/
noncomputable def eB_NewInt (n : Nat) : Int × Unit → Option ((Bool × (List Int) × Unit) × Unit) :=
  fun (a1, _) => 
  (peB_Int_SetInt64 n (a1, (false, ([] : List Int), ()), ())).bind fun (o2, _) => some ((o2.1, o2.2.1, ()), ())

/-- a round of a loop of espalierbig.add -/
noncomputable def eB_add_s0 {ρ : Type} (n : Nat) (rec : (List Int) × (List Int) × Int × Int × (List Int) × Unit → Option ρ) (kx : (List Int) × Int × (List Int) × Unit → Option ρ) (kr : Unit → Option ρ) : (List Int) × (List Int) × Int × Int × (List Int) × Unit → Option ρ :=
  fun (v4, v5, v6, v7, o8, _) => 
  (bif decide ((v7 : Int) < (v4.length : Int)) then 
  (ix v4 v7).bind fun x9 => 
  (bif decide ((v7 : Int) < (v5.length : Int)) then 
  (ix v5 v7).bind fun x10 => 
  (ix o8 v7).bind fun _ => 
  ((o8)[(v7 : Int).toNat]?).bind fun e11 => rec (v4, v5, bshr .u64 (IntKind.wrap .u64 ((IntKind.wrap .u64 (v6 + (IntKind.wrap .u64 (x9)))) + (IntKind.wrap .u64 (x10)))) 32, IntKind.wrap .i64 (v7 + 1), (o8).set ((v7 : Int).toNat) (IntKind.wrap .u32 (IntKind.wrap .u64 ((IntKind.wrap .u64 (v6 + (IntKind.wrap .u64 (x9)))) + (IntKind.wrap .u64 (x10))))), ())
  else 
  (ix o8 v7).bind fun _ => 
  ((o8)[(v7 : Int).toNat]?).bind fun e12 => rec (v4, v5, bshr .u64 (IntKind.wrap .u64 (v6 + (IntKind.wrap .u64 (x9)))) 32, IntKind.wrap .i64 (v7 + 1), (o8).set ((v7 : Int).toNat) (IntKind.wrap .u32 (IntKind.wrap .u64 (v6 + (IntKind.wrap .u64 (x9))))), ()))
  else kx (v4, v6, o8, ()))

/-- espalierbig.add -/
noncomputable def eB_add (n : Nat) : (List Int) × (List Int) × Unit → Option ((List Int) × Unit) :=
  fun (a1, a2, _) => 
  (bif decide (((a1.length : Int) : Int) < (a2.length : Int)) then 
  (cnt? (IntKind.wrap .i64 ((a2.length : Int) + 1))).bind fun m3 => 
  ck (room m3 4) (
  iterN (fun rc18 => eB_add_s0 n rc18 (fun (v13, v14, o15, _) => 
  (ix o15 (v13.length : Int)).bind fun _ => 
  ((o15)[((v13.length : Int) : Int).toNat]?).bind fun e16 => 
  (eB_trim n ((o15).set (((v13.length : Int) : Int).toNat) (IntKind.wrap .u32 (v14)), ())).bind fun (y17, _) => some (y17, ())) (fun (_) => none)) (n) (a2, a1, 0, 0, (List.replicate m3 0), ()))
  else 
  (cnt? (IntKind.wrap .i64 ((a1.length : Int) + 1))).bind fun m19 => 
  ck (room m19 4) (
  iterN (fun rc25 => eB_add_s0 n rc25 (fun (v20, v21, o22, _) => 
  (ix o22 (v20.length : Int)).bind fun _ => 
  ((o22)[((v20.length : Int) : Int).toNat]?).bind fun e23 => 
  (eB_trim n ((o22).set (((v20.length : Int) : Int).toNat) (IntKind.wrap .u32 (v21)), ())).bind fun (y24, _) => some (y24, ())) (fun (_) => none)) (n) (a1, a2, 0, 0, (List.replicate m19 0), ())))

/-- a round of a loop of espalierbig.cmp -/
noncomputable def eB_cmp_s0 {ρ : Type} (n : Nat) (rec : (List Int) × (List Int) × Int × Unit → Option ρ) (kx : Unit → Option ρ) (kr : Int × Unit → Option ρ) : (List Int) × (List Int) × Int × Unit → Option ρ :=
  fun (v3, v4, v5, _) => 
  (bif decide ((v5 : Int) ≥ 0) then 
  (ix v3 v5).bind fun x8 => 
  (ix v4 v5).bind fun x9 => 
  (bif (x8 : Int) != x9 then 
  (ix v3 v5).bind fun x12 => 
  (ix v4 v5).bind fun x13 => 
  (bif decide ((x12 : Int) < x13) then kr ((-1), ())
  else kr (1, ()))
  else rec (v3, v4, IntKind.wrap .i64 (v5 - 1), ()))
  else kx (()))

/-- espalierbig.cmp -/
noncomputable def eB_cmp (n : Nat) : (List Int) × (List Int) × Unit → Option (Int × Unit) :=
  fun (a1, a2, _) => 
  (bif ((a1.length : Int) : Int) != (a2.length : Int) then 
  (bif decide (((a1.length : Int) : Int) < (a2.length : Int)) then some ((-1), ())
  else some (1, ()))
  else 
  iterN (fun rc15 => eB_cmp_s0 n rc15 (fun (_) => some (0, ())) (fun (v14, _) => some (v14, ()))) (n) (a1, a2, IntKind.wrap .i64 ((a1.length : Int) - 1), ()))

/-- a round of a loop of espalierbig.sub -/
noncomputable def eB_sub_s0 {ρ : Type} (n : Nat) (rec : (List Int) × (List Int) × Int × Int × (List Int) × Unit → Option ρ) (kx : (List Int) × Unit → Option ρ) (kr : Unit → Option ρ) : (List Int) × (List Int) × Int × Int × (List Int) × Unit → Option ρ :=
  fun (v4, v5, v6, v7, o8, _) => 
  (bif decide ((v7 : Int) < (v4.length : Int)) then 
  (ix v4 v7).bind fun x9 => 
  (bif decide ((v7 : Int) < (v5.length : Int)) then 
  (ix v5 v7).bind fun x10 => 
  (ix o8 v7).bind fun _ => 
  ((o8)[(v7 : Int).toNat]?).bind fun e11 => rec (v4, v5, bshr .u64 (IntKind.wrap .u64 ((IntKind.wrap .u64 ((IntKind.wrap .u64 (x9)) - v6)) - (IntKind.wrap .u64 (x10)))) 63, IntKind.wrap .i64 (v7 + 1), (o8).set ((v7 : Int).toNat) (IntKind.wrap .u32 (IntKind.wrap .u64 ((IntKind.wrap .u64 ((IntKind.wrap .u64 (x9)) - v6)) - (IntKind.wrap .u64 (x10))))), ())
  else 
  (ix o8 v7).bind fun _ => 
  ((o8)[(v7 : Int).toNat]?).bind fun e12 => rec (v4, v5, bshr .u64 (IntKind.wrap .u64 ((IntKind.wrap .u64 (x9)) - v6)) 63, IntKind.wrap .i64 (v7 + 1), (o8).set ((v7 : Int).toNat) (IntKind.wrap .u32 (IntKind.wrap .u64 ((IntKind.wrap .u64 (x9)) - v6))), ()))
  else kx (o8, ()))

/-- espalierbig.sub -/
noncomputable def eB_sub (n : Nat) : (List Int) × (List Int) × Unit → Option ((List Int) × Unit) :=
  fun (a1, a2, _) => 
  (cnt? (a1.length : Int)).bind fun m3 => 
  ck (room m3 4) (
  iterN (fun rc15 => eB_sub_s0 n rc15 (fun (o13, _) => 
  (eB_trim n (o13, ())).bind fun (y14, _) => some (y14, ())) (fun (_) => none)) (n) (a1, a2, 0, 0, (List.replicate m3 0), ()))

/-- espalierbig.sum -/
noncomputable def eB_sum (n : Nat) : Bool × (List Int) × Bool × (List Int) × Unit → Option (Bool × (List Int) × Unit) :=
  fun (a1, a2, a3, a4, _) => 
  (bif a1 == a3 then 
  (eB_add n (a2, a4, ())).bind fun (y5, _) => some (a1, y5, ())
  else 
  (eB_cmp n (a2, a4, ())).bind fun (y6, _) => 
  (bif decide ((y6 : Int) ≥ 0) then 
  (eB_sub n (a2, a4, ())).bind fun (y7, _) => some (a1, y7, ())
  else 
  (eB_sub n (a4, a2, ())).bind fun (y8, _) => some (a3, y8, ())))

/-- (*espalierbig.Int).Add -/
noncomputable def peB_Int_Add (n : Nat) : (Bool × (List Int) × Unit) × (Bool × (List Int) × Unit) × (Bool × (List Int) × Unit) × Unit → Option ((Bool × (List Int) × Unit) × (Bool × (List Int) × Unit) × (Bool × (List Int) × Unit) × Unit) :=
  fun (o1, o2, o3, _) => 
  (eB_sum n (o2.1, o2.2.1, o3.1, o3.2.1, ())).bind fun (y4, y5, _) => 
  (peB_Int_give (y4, y5, (o1.1, o1.2.1, ()), ())).bind fun (o6, _) => some ((o6.1, o6.2.1, ()), (o2.1, o2.2.1, ()), (o3.1, o3.2.1, ()), ())

/-- a round of a loop of espalierbig.length -/
noncomputable def eB_length_s0 {ρ : Type} (n : Nat) (rec : (List Int) × Int × Int × Unit → Option ρ) (kx : (List Int) × Int × Unit → Option ρ) (kr : Unit → Option ρ) : (List Int) × Int × Int × Unit → Option ρ :=
  fun (v3, v4, v5, _) => 
  (bif (v5 : Int) != 0 then rec (v3, IntKind.wrap .i64 (v4 + 1), bshr .u32 v5 1, ())
  else kx (v3, v4, ()))

/-- espalierbig.length -/
noncomputable def eB_length (n : Nat) : (List Int) × Unit → Option (Int × Unit) :=
  fun (a1, _) => 
  (bif ((a1.length : Int) : Int) == 0 then some (0, ())
  else 
  (ix a1 (IntKind.wrap .i64 ((a1.length : Int) - 1))).bind fun x2 => 
  iterN (fun rc8 => eB_length_s0 n rc8 (fun (v6, v7, _) => some (IntKind.wrap .i64 ((IntKind.wrap .i64 ((IntKind.wrap .i64 ((v6.length : Int) - 1)) * 32)) + v7), ())) (fun (_) => none)) (n) (a1, 0, x2, ()))

/-- espalierbig.bit -/
noncomputable def eB_bit : (List Int) × Int × Unit → Option (Int × Unit) :=
  fun (a1, a2, _) => 
  (bif (decide ((a2 : Int) < 0)) || (decide ((bquo .i64 a2 32 : Int) ≥ (a1.length : Int))) then some (0, ())
  else 
  (ix a1 (bquo .i64 a2 32)).bind fun x3 => 
  (shamt (brem .u64 (IntKind.wrap .u64 (a2)) 32)).bind fun q4 => some (band .u64 (IntKind.wrap .u64 (bshr .u32 x3 q4)) 1, ()))

/-- a round of a loop of (*espalierbig.Int).TrailingZeroBits -/
noncomputable def peB_Int_TrailingZeroBits_s0 {ρ : Type} (n : Nat) (rec : Int × (Bool × (List Int) × Unit) × Unit → Option ρ) (kx : Int × (Bool × (List Int) × Unit) × Unit → Option ρ) (kr : Unit → Option ρ) : Int × (Bool × (List Int) × Unit) × Unit → Option ρ :=
  fun (v2, o3, _) => 
  (eB_bit (o3.2.1, IntKind.wrap .i64 (v2), ())).bind fun (y4, _) => 
  (bif (y4 : Int) == 0 then rec (IntKind.wrap .u64 (v2 + 1), (o3.1, o3.2.1, ()), ())
  else kx (v2, (o3.1, o3.2.1, ()), ()))

/-- (*espalierbig.Int).TrailingZeroBits -/
noncomputable def peB_Int_TrailingZeroBits (n : Nat) : (Bool × (List Int) × Unit) × Unit → Option (Int × (Bool × (List Int) × Unit) × Unit) :=
  fun (o1, _) => 
  (bif ((o1.2.1.length : Int) : Int) == 0 then some (0, (o1.1, o1.2.1, ()), ())
  else 
  iterN (fun rc7 => peB_Int_TrailingZeroBits_s0 n rc7 (fun (v5, o6, _) => some (v5, (o6.1, o6.2.1, ()), ())) (fun (_) => none)) (n) (0, (o1.1, o1.2.1, ()), ()))

/-- (*espalierbig.Int).IsInt64 -/
noncomputable def peB_Int_IsInt64 (n : Nat) : (Bool × (List Int) × Unit) × Unit → Option (Bool × (Bool × (List Int) × Unit) × Unit) :=
  fun (o1, _) => 
  (eB_length n (o1.2.1, ())).bind fun (y2, _) => 
  (bif decide ((y2 : Int) < 64) then some (true, (o1.1, o1.2.1, ()), ())
  else 
  (bif ((y2 : Int) == 64) && o1.1 then 
  (peB_Int_TrailingZeroBits n ((o1.1, o1.2.1, ()), ())).bind fun (y3, o4, _) => some ((y3 : Int) == 63, (o4.1, o4.2.1, ()), ())
  else some (false, (o1.1, o1.2.1, ()), ())))

/-- (*espalierbig.Int).Uint64 -/
noncomputable def peB_Int_Uint64 : (Bool × (List Int) × Unit) × Unit → Option (Int × (Bool × (List Int) × Unit) × Unit) :=
  fun (o1, _) => 
  (bif decide (((o1.2.1.length : Int) : Int) > 0) then 
  (ix o1.2.1 0).bind fun x2 => 
  (bif decide (((o1.2.1.length : Int) : Int) > 1) then 
  (ix o1.2.1 1).bind fun x3 => some (bor .u64 (IntKind.wrap .u64 (x2)) (bshl .u64 (IntKind.wrap .u64 (x3)) 32), (o1.1, o1.2.1, ()), ())
  else some (IntKind.wrap .u64 (x2), (o1.1, o1.2.1, ()), ()))
  else 
  (bif decide (((o1.2.1.length : Int) : Int) > 1) then 
  (ix o1.2.1 1).bind fun x4 => some (bor .u64 0 (bshl .u64 (IntKind.wrap .u64 (x4)) 32), (o1.1, o1.2.1, ()), ())
  else some (0, (o1.1, o1.2.1, ()), ())))

/-- (*espalierbig.Int).Int64 -/
noncomputable def peB_Int_Int64 : (Bool × (List Int) × Unit) × Unit → Option (Int × (Bool × (List Int) × Unit) × Unit) :=
  fun (o1, _) => 
  (peB_Int_Uint64 ((o1.1, o1.2.1, ()), ())).bind fun (y2, o3, _) => 
  (bif o3.1 then some (IntKind.wrap .i64 (0 - (IntKind.wrap .i64 (y2))), (o3.1, o3.2.1, ()), ())
  else some (IntKind.wrap .i64 (y2), (o3.1, o3.2.1, ()), ()))

/-- (*espalierbig.Int).Sub -/
noncomputable def peB_Int_Sub (n : Nat) : (Bool × (List Int) × Unit) × (Bool × (List Int) × Unit) × (Bool × (List Int) × Unit) × Unit → Option ((Bool × (List Int) × Unit) × (Bool × (List Int) × Unit) × (Bool × (List Int) × Unit) × Unit) :=
  fun (o1, o2, o3, _) => 
  (eB_sum n (o2.1, o2.2.1, !o3.1, o3.2.1, ())).bind fun (y4, y5, _) => 
  (peB_Int_give (y4, y5, (o1.1, o1.2.1, ()), ())).bind fun (o6, _) => some ((o6.1, o6.2.1, ()), (o2.1, o2.2.1, ()), (o3.1, o3.2.1, ()), ())

/-- a round of a loop of espalierbig.mul -/
noncomputable def eB_mul_s2 {ρ : Type} (n : Nat) (rec : (List Int) × (List Int) × Int × Int × Int × (List Int) × Unit → Option ρ) (kx : (List Int) × (List Int) × Int × Int × (List Int) × Unit → Option ρ) (kr : Unit → Option ρ) : (List Int) × (List Int) × Int × Int × Int × (List Int) × Unit → Option ρ :=
  fun (v8, v9, v10, v11, v12, o13, _) => 
  (bif decide ((v12 : Int) < (v9.length : Int)) then 
  (ix v8 v10).bind fun x17 => 
  (ix v9 v12).bind fun x18 => 
  (ix o13 (IntKind.wrap .i64 (v10 + v12))).bind fun _ => 
  ((o13)[(IntKind.wrap .i64 (v10 + v12) : Int).toNat]?).bind fun e19 => 
  (ix o13 (IntKind.wrap .i64 (v10 + v12))).bind fun _ => 
  ((o13)[(IntKind.wrap .i64 (v10 + v12) : Int).toNat]?).bind fun e20 => rec (v8, v9, v10, bshr .u64 (IntKind.wrap .u64 (v11 + (IntKind.wrap .u64 ((IntKind.wrap .u64 ((IntKind.wrap .u64 (x17)) * (IntKind.wrap .u64 (x18)))) + (IntKind.wrap .u64 (e19)))))) 32, IntKind.wrap .i64 (v12 + 1), (o13).set ((IntKind.wrap .i64 (v10 + v12) : Int).toNat) (IntKind.wrap .u32 (IntKind.wrap .u64 (v11 + (IntKind.wrap .u64 ((IntKind.wrap .u64 ((IntKind.wrap .u64 (x17)) * (IntKind.wrap .u64 (x18)))) + (IntKind.wrap .u64 (e19))))))), ())
  else kx (v8, v9, v10, v11, o13, ()))

/-- a round of a loop of espalierbig.mul -/
noncomputable def eB_mul_s0 {ρ : Type} (n : Nat) (rec : (List Int) × (List Int) × Int × (List Int) × Unit → Option ρ) (kx : (List Int) × Unit → Option ρ) (kr : Unit → Option ρ) : (List Int) × (List Int) × Int × (List Int) × Unit → Option ρ :=
  fun (v4, v5, v6, o7, _) => 
  (bif decide ((v6 : Int) < (v4.length : Int)) then 
  iterN (fun rc27 => eB_mul_s2 n rc27 (fun (v21, v22, v23, v24, o25, _) => 
  (ix o25 (IntKind.wrap .i64 (v23 + (v22.length : Int)))).bind fun _ => 
  ((o25)[(IntKind.wrap .i64 (v23 + (v22.length : Int)) : Int).toNat]?).bind fun e26 => rec (v21, v22, IntKind.wrap .i64 (v23 + 1), (o25).set ((IntKind.wrap .i64 (v23 + (v22.length : Int)) : Int).toNat) (IntKind.wrap .u32 (v24)), ())) (fun (_) => none)) (n) (v4, v5, v6, 0, 0, o7, ())
  else kx (o7, ()))

/-- espalierbig.mul -/
noncomputable def eB_mul (n : Nat) : (List Int) × (List Int) × Unit → Option ((List Int) × Unit) :=
  fun (a1, a2, _) => 
  (bif (((a1.length : Int) : Int) == 0) || (((a2.length : Int) : Int) == 0) then some (([] : List Int), ())
  else 
  (cnt? (IntKind.wrap .i64 ((a1.length : Int) + (a2.length : Int)))).bind fun m3 => 
  ck (room m3 4) (
  iterN (fun rc30 => eB_mul_s0 n rc30 (fun (o28, _) => 
  (eB_trim n (o28, ())).bind fun (y29, _) => some (y29, ())) (fun (_) => none)) (n) (a1, a2, 0, (List.replicate m3 0), ())))

/-- (*espalierbig.Int).Mul -/
noncomputable def peB_Int_Mul (n : Nat) : (Bool × (List Int) × Unit) × (Bool × (List Int) × Unit) × (Bool × (List Int) × Unit) × Unit → Option ((Bool × (List Int) × Unit) × (Bool × (List Int) × Unit) × (Bool × (List Int) × Unit) × Unit) :=
  fun (o1, o2, o3, _) => 
  (eB_mul n (o2.2.1, o3.2.1, ())).bind fun (y4, _) => 
  (peB_Int_give (!(o2.1 == o3.1), y4, (o1.1, o1.2.1, ()), ())).bind fun (o5, _) => some ((o5.1, o5.2.1, ()), (o2.1, o2.2.1, ()), (o3.1, o3.2.1, ()), ())

/-- espalierref.ReckonOf -/
noncomputable def eR_ReckonOf (n : Nat) : ByteArray × Ev.Val × Ev.Val × Unit → Option (Ev.Val × Int × Unit) :=
  fun (a1, a2, a3, _) => 
  (bif ((!(seq a1 (⟨#[43]⟩ : ByteArray))) && (!(seq a1 (⟨#[45]⟩ : ByteArray)))) && (!(seq a1 (⟨#[42]⟩ : ByteArray))) then some ((Ev.Val.mk 0 0 (⟨#[]⟩ : ByteArray) ([] : List Ev.Val)), 5, ())
  else 
  (bif ((a2.kind : Int) == 0) || ((a3.kind : Int) == 0) then some ((Ev.Val.mk 0 0 (⟨#[]⟩ : ByteArray) ([] : List Ev.Val)), 0, ())
  else 
  (bif ((a2.kind : Int) == 2) && ((a3.kind : Int) == 2) then 
  (eB_NewInt n (a2.n, ())).bind fun (o4, _) => 
  (eB_NewInt n (a3.n, ())).bind fun (o5, _) => 
  (bif seq a1 (⟨#[43]⟩ : ByteArray) then 
  (peB_Int_Add n ((false, ([] : List Int), ()), (o4.1, o4.2.1, ()), (o5.1, o5.2.1, ()), ())).bind fun (o6, o7, o8, _) => 
  (peB_Int_IsInt64 n ((o6.1, o6.2.1, ()), ())).bind fun (y9, o10, _) => 
  (bif !y9 then some ((Ev.Val.mk 0 0 (⟨#[]⟩ : ByteArray) ([] : List Ev.Val)), 4, ())
  else 
  (peB_Int_Int64 ((o10.1, o10.2.1, ()), ())).bind fun (y11, o12, _) => some ((Ev.Val.mk 2 y11 (⟨#[]⟩ : ByteArray) ([] : List Ev.Val)), 0, ()))
  else 
  (bif seq a1 (⟨#[45]⟩ : ByteArray) then 
  (peB_Int_Sub n ((false, ([] : List Int), ()), (o4.1, o4.2.1, ()), (o5.1, o5.2.1, ()), ())).bind fun (o13, o14, o15, _) => 
  (peB_Int_IsInt64 n ((o13.1, o13.2.1, ()), ())).bind fun (y16, o17, _) => 
  (bif !y16 then some ((Ev.Val.mk 0 0 (⟨#[]⟩ : ByteArray) ([] : List Ev.Val)), 4, ())
  else 
  (peB_Int_Int64 ((o17.1, o17.2.1, ()), ())).bind fun (y18, o19, _) => some ((Ev.Val.mk 2 y18 (⟨#[]⟩ : ByteArray) ([] : List Ev.Val)), 0, ()))
  else 
  (peB_Int_Mul n ((false, ([] : List Int), ()), (o4.1, o4.2.1, ()), (o5.1, o5.2.1, ()), ())).bind fun (o20, o21, o22, _) => 
  (peB_Int_IsInt64 n ((o20.1, o20.2.1, ()), ())).bind fun (y23, o24, _) => 
  (bif !y23 then some ((Ev.Val.mk 0 0 (⟨#[]⟩ : ByteArray) ([] : List Ev.Val)), 4, ())
  else 
  (peB_Int_Int64 ((o24.1, o24.2.1, ()), ())).bind fun (y25, o26, _) => some ((Ev.Val.mk 2 y25 (⟨#[]⟩ : ByteArray) ([] : List Ev.Val)), 0, ()))))
  else 
  (bif ((!(seq a1 (⟨#[43]⟩ : ByteArray))) || ((a2.kind : Int) != a3.kind)) || (((a2.kind : Int) != 3) && ((a2.kind : Int) != 4)) then some ((Ev.Val.mk 0 0 (⟨#[]⟩ : ByteArray) ([] : List Ev.Val)), 3, ())
  else 
  (bif (a2.kind : Int) == 3 then 
  (cat? a2.s a3.s).bind fun s27 => 
  (bif decide (((s27.size : Int) : Int) > 4000) then some ((Ev.Val.mk 0 0 (⟨#[]⟩ : ByteArray) ([] : List Ev.Val)), 2, ())
  else 
  (cat? a2.s a3.s).bind fun s28 => some ((Ev.Val.mk 3 0 s28 ([] : List Ev.Val)), 0, ()))
  else 
  (bif decide ((IntKind.wrap .i64 ((a2.l.length : Int) + (a3.l.length : Int)) : Int) > 30) then some ((Ev.Val.mk 0 0 (⟨#[]⟩ : ByteArray) ([] : List Ev.Val)), 2, ())
  else 
  ck (room (([] : List Ev.Val) ++ a2.l).length 56) (
  ck (room ((([] : List Ev.Val) ++ a2.l) ++ a3.l).length 56) (some ((Ev.Val.mk 4 0 (⟨#[]⟩ : ByteArray) ((([] : List Ev.Val) ++ a2.l) ++ a3.l)), 0, ())))))))))

/-- a round of a loop of bag.Of -/
noncomputable def bag_Of_s0 {ρ : Type} (n : Nat) (rec : (List (List Ev.Val)) × Int × Int × (List Ev.Cnt) × Unit → Option ρ) (kx : (List Ev.Cnt) × Unit → Option ρ) (kr : Unit → Option ρ) : (List (List Ev.Val)) × Int × Int × (List Ev.Cnt) × Unit → Option ρ :=
  fun (v2, v3, v4, o5, _) => 
  (bif decide ((v4 : Int) < v3) then 
  (ix v2 v4).bind fun x6 => 
  ck (room (o5 ++ ([(Ev.Cnt.mk x6 1)] : List Ev.Cnt)).length 32) (rec (v2, v3, IntKind.wrap .i64 (v4 + 1), o5 ++ ([(Ev.Cnt.mk x6 1)] : List Ev.Cnt), ()))
  else kx (o5, ()))

noncomputable def F_bag_Of_s0 {ρ : Type} (n : Nat) (kr : Unit → Option ρ) : Int → ((List Ev.Val)) → ((List Ev.Cnt) × Unit) → (((List Ev.Cnt) × Unit) → Option ρ) → Option ρ :=
  fun v4 x6 (o5, _) rec =>  
  ck (room (o5 ++ ([(Ev.Cnt.mk x6 1)] : List Ev.Cnt)).length 32) (rec (o5 ++ ([(Ev.Cnt.mk x6 1)] : List Ev.Cnt), ()))

theorem R_bag_Of_s0 {ρ : Type} (n : Nat) (kx : (List Ev.Cnt) × Unit → Option ρ) (kr : Unit → Option ρ) (l : List (List Ev.Val)) (fuel : Nat) (o5 : List Ev.Cnt) (hl : l.length ≤ 9223372036854775807) (hf : l.length < fuel) :
    iterN (fun rc => bag_Of_s0 n rc kx kr) fuel (l, (l.length : Int), 0, o5, ()) = foldK (F_bag_Of_s0 n kr) (fun (o5, _) => kx (o5, ())) 0 l (o5, ()) :=
  range_listM l (fun i (o5, _) => (l, (l.length : Int), i, o5, ())) _ _ _ (fun rec i s => rfl) hl fuel (o5, ()) hf

/-- bag.Of -/
noncomputable def bag_Of (n : Nat) : (List (List Ev.Val)) × Unit → Option ((List Ev.Cnt) × Int × Unit) :=
  fun (a1, _) => 
  (bif decide (((a1.length : Int) : Int) > 2000) then some (([] : List Ev.Cnt), 2, ())
  else 
  iterN (fun rc10 => bag_Of_s0 n rc10 (fun (o7, _) => 
  (bag_Gather n (o7, ())).bind fun (y8, _) => 
  (bag_Check n (y8, ())).bind fun (y9, _) => 
  (bif (y9 : Int) != 0 then some (([] : List Ev.Cnt), y9, ())
  else some (y8, 0, ()))) (fun (_) => none)) (n) (a1, (a1.length : Int), 0, ([] : List Ev.Cnt), ()))

/-- espalierref.SameBag$1 -/
noncomputable def eR_SameBag_1 (n : Nat) : Ev.Cnt × Ev.Cnt × Unit → Option (Bool × Unit) :=
  fun (a1, a2, _) => 
  (bif (a1.n : Int) == a2.n then 
  (eR_CompareRows n (a1.r, a2.r, ())).bind fun (y3, _) => some ((y3 : Int) == 0, ())
  else some (false, ()))

/-- a round of a loop of slices.EqualFunc api.Bag,api.Bag,api.Count,api.Count  -/
noncomputable def sl_EqualFunc_api_Bag_api_Bag_C_C_eR_SameBag_1_s0 {ρ : Type} (n : Nat) (rec : (List Ev.Cnt) × (List Ev.Cnt) × Int × Int × Unit → Option ρ) (kx : Unit → Option ρ) (kr : Bool × Unit → Option ρ) : (List Ev.Cnt) × (List Ev.Cnt) × Int × Int × Unit → Option ρ :=
  fun (v3, v4, v5, v6, _) => 
  (bif decide ((v6 : Int) < v5) then 
  (ix v4 v6).bind fun x7 => 
  (ix v3 v6).bind fun x8 => 
  (eR_SameBag_1 n ((Ev.Cnt.mk x7.r x7.n), (Ev.Cnt.mk x8.r x8.n), ())).bind fun (y9, _) => 
  (bif !y9 then kr (false, ())
  else rec (v3, v4, v5, IntKind.wrap .i64 (v6 + 1), ()))
  else kx (()))

noncomputable def F_sl_EqualFunc_api_Bag_api_Bag_C_C_eR_SameBag_1_s0 {ρ : Type} (n : Nat) (kr : Bool × Unit → Option ρ) : Int → Ev.Cnt → ((List Ev.Cnt) × Unit) → (((List Ev.Cnt) × Unit) → Option ρ) → Option ρ :=
  fun v6 x7 (v3, _) rec =>  
  (ix v3 v6).bind fun x8 => 
  (eR_SameBag_1 n ((Ev.Cnt.mk x7.r x7.n), (Ev.Cnt.mk x8.r x8.n), ())).bind fun (y9, _) => 
  (bif !y9 then kr (false, ())
  else rec (v3, ()))

theorem R_sl_EqualFunc_api_Bag_api_Bag_C_C_eR_SameBag_1_s0 {ρ : Type} (n : Nat) (kx : Unit → Option ρ) (kr : Bool × Unit → Option ρ) (l : List Ev.Cnt) (fuel : Nat) (v3 : List Ev.Cnt) (hl : l.length ≤ 9223372036854775807) (hf : l.length < fuel) :
    iterN (fun rc => sl_EqualFunc_api_Bag_api_Bag_C_C_eR_SameBag_1_s0 n rc kx kr) fuel (v3, l, (l.length : Int), 0, ()) = foldK (F_sl_EqualFunc_api_Bag_api_Bag_C_C_eR_SameBag_1_s0 n kr) (fun (v3, _) => kx (())) 0 l (v3, ()) :=
  range_listM l (fun i (v3, _) => (v3, l, (l.length : Int), i, ())) _ _ _ (fun rec i s => rfl) hl fuel (v3, ()) hf

/-- slices.EqualFunc api.Bag,api.Bag,api.Count,api.Count  -/
noncomputable def sl_EqualFunc_api_Bag_api_Bag_C_C_eR_SameBag_1 (n : Nat) : (List Ev.Cnt) × (List Ev.Cnt) × Unit → Option (Bool × Unit) :=
  fun (a1, a2, _) => 
  (bif ((a1.length : Int) : Int) != (a2.length : Int) then some (false, ())
  else 
  iterN (fun rc11 => sl_EqualFunc_api_Bag_api_Bag_C_C_eR_SameBag_1_s0 n rc11 (fun (_) => some (true, ())) (fun (v10, _) => some (v10, ()))) (n) (a2, a1, (a1.length : Int), 0, ()))

/-- espalierref.SameBag -/
noncomputable def eR_SameBag (n : Nat) : (List Ev.Cnt) × (List Ev.Cnt) × Unit → Option (Bool × Unit) :=
  fun (a1, a2, _) => 
  (sl_EqualFunc_api_Bag_api_Bag_C_C_eR_SameBag_1 n (a1, a2, ())).bind fun (y3, _) => some (y3, ())

/-- espalierlaw.bagged -/
noncomputable def eL_bagged (n : Nat) : Unit → Option (Bool × Unit) :=
  fun (_) => 
  (eL_num (2, ())).bind fun (y1, _) => 
  (eL_num (1, ())).bind fun (y2, _) => 
  (eL_num (2, ())).bind fun (y3, _) => 
  (bag_Of n (([([(Ev.Val.mk y1.kind y1.n y1.s y1.l)] : List Ev.Val), ([(Ev.Val.mk y2.kind y2.n y2.s y2.l)] : List Ev.Val), ([(Ev.Val.mk y3.kind y3.n y3.s y3.l)] : List Ev.Val)] : List (List Ev.Val)), ())).bind fun (y4, y5, _) => 
  (bag_Join n (y4, y4, 1, ())).bind fun (y6, y7, _) => 
  (bif ((y5 : Int) == 0) && ((y7 : Int) == 0) then 
  (eL_num (1, ())).bind fun (y8, _) => 
  (eL_num (2, ())).bind fun (y9, _) => 
  (eR_SameBag n (y4, ([(Ev.Cnt.mk ([(Ev.Val.mk y8.kind y8.n y8.s y8.l)] : List Ev.Val) 1), (Ev.Cnt.mk ([(Ev.Val.mk y9.kind y9.n y9.s y9.l)] : List Ev.Val) 2)] : List Ev.Cnt), ())).bind fun (y10, _) => 
  (bif y10 then 
  (eL_num (1, ())).bind fun (y11, _) => 
  (eL_num (2, ())).bind fun (y12, _) => 
  (eR_SameBag n (y6, ([(Ev.Cnt.mk ([(Ev.Val.mk y11.kind y11.n y11.s y11.l)] : List Ev.Val) 1), (Ev.Cnt.mk ([(Ev.Val.mk y12.kind y12.n y12.s y12.l)] : List Ev.Val) 4)] : List Ev.Cnt), ())).bind fun (y13, _) => some (y13, ())
  else some (false, ()))
  else some (false, ()))

/-- espalierref.BagOf$1 -/
noncomputable def eR_BagOf_1 (n : Nat) : Int × Int × Unit × (List Ev.Cnt) × Unit → Option (Bool × Unit × (List Ev.Cnt) × Unit) :=
  fun (a1, a2, o3, o4, _) => 
  (ix o4 a1).bind fun _ => 
  ((o4)[(a1 : Int).toNat]?).bind fun e7 => 
  (ix o4 a2).bind fun _ => 
  ((o4)[(a2 : Int).toNat]?).bind fun e8 => 
  (eR_CompareRows n (e7.r, e8.r, ())).bind fun (y9, _) => some (decide ((y9 : Int) < 0), (()), o4, ())

/-- a round of a loop of sort.iS_func -/
noncomputable def sort_iS_fB_s2 {ρ : Type} (n : Nat) (rec : Int × Int × Int × Int × Unit × Unit × (List Ev.Cnt) × Unit → Option ρ) (kx : Int × Int × Int × Unit × Unit × (List Ev.Cnt) × Unit → Option ρ) (kr : Unit → Option ρ) : Int × Int × Int × Int × Unit × Unit × (List Ev.Cnt) × Unit → Option ρ :=
  fun (v11, v12, v13, v14, o15, o16, o17, _) => 
  (bif decide ((v14 : Int) > v11) then 
  (eR_BagOf_1 n (v14, IntKind.wrap .i64 (v14 - 1), (()), o17, ())).bind fun (y18, o19, o20, _) => 
  (bif y18 then 
  (swapN (v14, IntKind.wrap .i64 (v14 - 1), o20, ())).bind fun (o21, _) => rec (v11, v12, v13, IntKind.wrap .i64 (v14 - 1), (()), (()), o21, ())
  else kx (v11, v12, v13, (()), (()), o20, ()))
  else kx (v11, v12, v13, (()), (()), o17, ()))

/-- a round of a loop of sort.iS_func -/
noncomputable def sort_iS_fB_s0 {ρ : Type} (n : Nat) (rec : Int × Int × Int × Unit × Unit × (List Ev.Cnt) × Unit → Option ρ) (kx : Unit × (List Ev.Cnt) × Unit → Option ρ) (kr : Unit → Option ρ) : Int × Int × Int × Unit × Unit × (List Ev.Cnt) × Unit → Option ρ :=
  fun (v5, v6, v7, o8, o9, o10, _) => 
  (bif decide ((v7 : Int) < v6) then 
  iterN (fun rc28 => sort_iS_fB_s2 n rc28 (fun (v22, v23, v24, o25, o26, o27, _) => rec (v22, v23, IntKind.wrap .i64 (v24 + 1), (()), (()), o27, ())) (fun (_) => none)) (n) (v5, v6, v7, v7, (()), (()), o10, ())
  else kx ((()), o10, ()))

/-- sort.iS_func -/
noncomputable def sort_iS_fB (n : Nat) : Int × Int × Unit × (List Ev.Cnt) × Unit → Option (Unit × (List Ev.Cnt) × Unit) :=
  fun (a1, a2, o3, o4, _) => 
  iterN (fun rc31 => sort_iS_fB_s0 n rc31 (fun (o29, o30, _) => some ((()), o30, ())) (fun (_) => none)) (n) (a1, a2, IntKind.wrap .i64 (a1 + 1), (()), (()), o4, ())

/-- a round of a loop of sort.swapRange_func -/
noncomputable def sort_swapRange_fB_s0 {ρ : Type} (n : Nat) (rec : Int × Int × Int × Int × Unit × Unit × (List Ev.Cnt) × Unit → Option ρ) (kx : Unit × (List Ev.Cnt) × Unit → Option ρ) (kr : Unit → Option ρ) : Int × Int × Int × Int × Unit × Unit × (List Ev.Cnt) × Unit → Option ρ :=
  fun (v6, v7, v8, v9, o10, o11, o12, _) => 
  (bif decide ((v9 : Int) < v8) then 
  (swapN (IntKind.wrap .i64 (v6 + v9), IntKind.wrap .i64 (v7 + v9), o12, ())).bind fun (o13, _) => rec (v6, v7, v8, IntKind.wrap .i64 (v9 + 1), (()), (()), o13, ())
  else kx ((()), o12, ()))

/-- sort.swapRange_func -/
noncomputable def sort_swapRange_fB (n : Nat) : Int × Int × Int × Unit × (List Ev.Cnt) × Unit → Option (Unit × (List Ev.Cnt) × Unit) :=
  fun (a1, a2, a3, o4, o5, _) => 
  iterN (fun rc16 => sort_swapRange_fB_s0 n rc16 (fun (o14, o15, _) => some ((()), o15, ())) (fun (_) => none)) (n) (a1, a2, a3, 0, (()), (()), o5, ())

/-- a round of a loop of sort.rotate_func -/
noncomputable def sort_rotate_fB_s0 {ρ : Type} (n : Nat) (rec : Int × Int × Int × Unit × Unit × (List Ev.Cnt) × Unit → Option ρ) (kx : Int × Int × Unit × Unit × (List Ev.Cnt) × Unit → Option ρ) (kr : Unit → Option ρ) : Int × Int × Int × Unit × Unit × (List Ev.Cnt) × Unit → Option ρ :=
  fun (v6, v7, v8, o9, o10, o11, _) => 
  (bif (v7 : Int) != v8 then 
  (bif decide ((v7 : Int) > v8) then 
  (sort_swapRange_fB n (IntKind.wrap .i64 (v6 - v7), v6, v8, (()), o11, ())).bind fun (o12, o13, _) => rec (v6, IntKind.wrap .i64 (v7 - v8), v8, (()), (()), o13, ())
  else 
  (sort_swapRange_fB n (IntKind.wrap .i64 (v6 - v7), IntKind.wrap .i64 ((IntKind.wrap .i64 (v6 + v8)) - v7), v7, (()), o11, ())).bind fun (o14, o15, _) => rec (v6, v7, IntKind.wrap .i64 (v8 - v7), (()), (()), o15, ()))
  else kx (v6, v7, (()), (()), o11, ()))

/-- sort.rotate_func -/
noncomputable def sort_rotate_fB (n : Nat) : Int × Int × Int × Unit × (List Ev.Cnt) × Unit → Option (Unit × (List Ev.Cnt) × Unit) :=
  fun (a1, a2, a3, o4, o5, _) => 
  iterN (fun rc23 => sort_rotate_fB_s0 n rc23 (fun (v16, v17, o18, o19, o20, _) => 
  (sort_swapRange_fB n (IntKind.wrap .i64 (v16 - v17), v16, v17, (()), o20, ())).bind fun (o21, o22, _) => some ((()), o22, ())) (fun (_) => none)) (n) (a2, IntKind.wrap .i64 (a2 - a1), IntKind.wrap .i64 (a3 - a2), (()), (()), o5, ())

/-- a round of a loop of sort.sM_func -/
noncomputable def sort_sM_fB_s0 {ρ : Type} (self_sort_sM_fB : Int × Int × Int × Unit × (List Ev.Cnt) × Unit → Option (Unit × (List Ev.Cnt) × Unit)) (n : Nat) (rec : Int × Int × Int × Unit × Unit × (List Ev.Cnt) × Unit → Option ρ) (kx : Int × Int × Unit × Unit × (List Ev.Cnt) × Unit → Option ρ) (kr : Unit → Option ρ) : Int × Int × Int × Unit × Unit × (List Ev.Cnt) × Unit → Option ρ :=
  fun (v6, v7, v8, o9, o10, o11, _) => 
  (bif decide ((v7 : Int) < v8) then 
  (eR_BagOf_1 n (IntKind.wrap .i64 (bshr .u64 (IntKind.wrap .u64 (IntKind.wrap .i64 (v7 + v8))) 1), v6, (()), o11, ())).bind fun (y12, o13, o14, _) => 
  (bif y12 then rec (v6, IntKind.wrap .i64 ((IntKind.wrap .i64 (bshr .u64 (IntKind.wrap .u64 (IntKind.wrap .i64 (v7 + v8))) 1)) + 1), v8, (()), (()), o14, ())
  else rec (v6, v7, IntKind.wrap .i64 (bshr .u64 (IntKind.wrap .u64 (IntKind.wrap .i64 (v7 + v8))) 1), (()), (()), o14, ()))
  else kx (v6, v7, (()), (()), o11, ()))

/-- a round of a loop of sort.sM_func -/
noncomputable def sort_sM_fB_s2 {ρ : Type} (self_sort_sM_fB : Int × Int × Int × Unit × (List Ev.Cnt) × Unit → Option (Unit × (List Ev.Cnt) × Unit)) (n : Nat) (rec : Int × Int × Unit × Unit × (List Ev.Cnt) × Unit → Option ρ) (kx : Unit × (List Ev.Cnt) × Unit → Option ρ) (kr : Unit → Option ρ) : Int × Int × Unit × Unit × (List Ev.Cnt) × Unit → Option ρ :=
  fun (v20, v21, o22, o23, o24, _) => 
  (bif decide ((v21 : Int) < (IntKind.wrap .i64 (v20 - 1))) then 
  (swapN (v21, IntKind.wrap .i64 (v21 + 1), o24, ())).bind fun (o25, _) => rec (v20, IntKind.wrap .i64 (v21 + 1), (()), (()), o25, ())
  else kx ((()), o24, ()))

/-- a round of a loop of sort.sM_func -/
noncomputable def sort_sM_fB_s4 {ρ : Type} (self_sort_sM_fB : Int × Int × Int × Unit × (List Ev.Cnt) × Unit → Option (Unit × (List Ev.Cnt) × Unit)) (n : Nat) (rec : Int × Int × Int × Unit × Unit × (List Ev.Cnt) × Unit → Option ρ) (kx : Int × Int × Unit × Unit × (List Ev.Cnt) × Unit → Option ρ) (kr : Unit → Option ρ) : Int × Int × Int × Unit × Unit × (List Ev.Cnt) × Unit → Option ρ :=
  fun (v30, v31, v32, o33, o34, o35, _) => 
  (bif decide ((v31 : Int) < v32) then 
  (eR_BagOf_1 n (v30, IntKind.wrap .i64 (bshr .u64 (IntKind.wrap .u64 (IntKind.wrap .i64 (v31 + v32))) 1), (()), o35, ())).bind fun (y36, o37, o38, _) => 
  (bif !y36 then rec (v30, IntKind.wrap .i64 ((IntKind.wrap .i64 (bshr .u64 (IntKind.wrap .u64 (IntKind.wrap .i64 (v31 + v32))) 1)) + 1), v32, (()), (()), o38, ())
  else rec (v30, v31, IntKind.wrap .i64 (bshr .u64 (IntKind.wrap .u64 (IntKind.wrap .i64 (v31 + v32))) 1), (()), (()), o38, ()))
  else kx (v30, v31, (()), (()), o35, ()))

/-- a round of a loop of sort.sM_func -/
noncomputable def sort_sM_fB_s6 {ρ : Type} (self_sort_sM_fB : Int × Int × Int × Unit × (List Ev.Cnt) × Unit → Option (Unit × (List Ev.Cnt) × Unit)) (n : Nat) (rec : Int × Int × Unit × Unit × (List Ev.Cnt) × Unit → Option ρ) (kx : Unit × (List Ev.Cnt) × Unit → Option ρ) (kr : Unit → Option ρ) : Int × Int × Unit × Unit × (List Ev.Cnt) × Unit → Option ρ :=
  fun (v44, v45, o46, o47, o48, _) => 
  (bif decide ((v45 : Int) > v44) then 
  (swapN (v45, IntKind.wrap .i64 (v45 - 1), o48, ())).bind fun (o49, _) => rec (v44, IntKind.wrap .i64 (v45 - 1), (()), (()), o49, ())
  else kx ((()), o48, ()))

/-- a round of a loop of sort.sM_func -/
noncomputable def sort_sM_fB_s8 {ρ : Type} (self_sort_sM_fB : Int × Int × Int × Unit × (List Ev.Cnt) × Unit → Option (Unit × (List Ev.Cnt) × Unit)) (n : Nat) (rec : Int × Int × Int × Int × Int × Int × Int × Int × Unit × Unit × (List Ev.Cnt) × Unit → Option ρ) (kx : Int × Int × Int × Int × Int × Int × Unit × Unit × (List Ev.Cnt) × Unit → Option ρ) (kr : Unit → Option ρ) : Int × Int × Int × Int × Int × Int × Int × Int × Unit × Unit × (List Ev.Cnt) × Unit → Option ρ :=
  fun (v54, v55, v56, v57, v58, v59, v60, v61, o62, o63, o64, _) => 
  (bif decide ((v59 : Int) < v60) then 
  (eR_BagOf_1 n (IntKind.wrap .i64 (v61 - (IntKind.wrap .i64 (bshr .u64 (IntKind.wrap .u64 (IntKind.wrap .i64 (v59 + v60))) 1))), IntKind.wrap .i64 (bshr .u64 (IntKind.wrap .u64 (IntKind.wrap .i64 (v59 + v60))) 1), (()), o64, ())).bind fun (y65, o66, o67, _) => 
  (bif !y65 then rec (v54, v55, v56, v57, v58, IntKind.wrap .i64 ((IntKind.wrap .i64 (bshr .u64 (IntKind.wrap .u64 (IntKind.wrap .i64 (v59 + v60))) 1)) + 1), v60, v61, (()), (()), o67, ())
  else rec (v54, v55, v56, v57, v58, v59, IntKind.wrap .i64 (bshr .u64 (IntKind.wrap .u64 (IntKind.wrap .i64 (v59 + v60))) 1), v61, (()), (()), o67, ()))
  else kx (v54, v55, v56, v57, v58, v59, (()), (()), o64, ()))

/-- sort.sM_func -/
noncomputable def sort_sM_fB_b (self_sort_sM_fB : Int × Int × Int × Unit × (List Ev.Cnt) × Unit → Option (Unit × (List Ev.Cnt) × Unit)) (n : Nat) : Int × Int × Int × Unit × (List Ev.Cnt) × Unit → Option (Unit × (List Ev.Cnt) × Unit) :=
  fun (a1, a2, a3, o4, o5, _) => 
  (bif (IntKind.wrap .i64 (a2 - a1) : Int) == 1 then 
  iterN (fun rc29 => sort_sM_fB_s0 self_sort_sM_fB n rc29 (fun (v15, v16, o17, o18, o19, _) => 
  iterN (fun rc28 => sort_sM_fB_s2 self_sort_sM_fB n rc28 (fun (o26, o27, _) => some ((()), o27, ())) (fun (_) => none)) (n) (v16, v15, (()), (()), o19, ())) (fun (_) => none)) (n) (a1, a2, a3, (()), (()), o5, ())
  else 
  (bif (IntKind.wrap .i64 (a3 - a2) : Int) == 1 then 
  iterN (fun rc53 => sort_sM_fB_s4 self_sort_sM_fB n rc53 (fun (v39, v40, o41, o42, o43, _) => 
  iterN (fun rc52 => sort_sM_fB_s6 self_sort_sM_fB n rc52 (fun (o50, o51, _) => some ((()), o51, ())) (fun (_) => none)) (n) (v40, v39, (()), (()), o43, ())) (fun (_) => none)) (n) (a2, a1, a2, (()), (()), o5, ())
  else 
  (bif decide ((a2 : Int) > (IntKind.wrap .i64 (bshr .u64 (IntKind.wrap .u64 (IntKind.wrap .i64 (a1 + a3))) 1))) then 
  iterN (fun rc91 => sort_sM_fB_s8 self_sort_sM_fB n rc91 (fun (v68, v69, v70, v71, v72, v73, o74, o75, o76, _) => 
  (bif (decide ((v73 : Int) < v69)) && (decide ((v69 : Int) < (IntKind.wrap .i64 (v72 - v73)))) then 
  (sort_rotate_fB n (v73, v69, IntKind.wrap .i64 (v72 - v73), (()), o76, ())).bind fun (o77, o78, _) => 
  (bif (decide ((v68 : Int) < v73)) && (decide ((v73 : Int) < v71)) then 
  (self_sort_sM_fB (v68, v73, v71, (()), o78, ())).bind fun (o79, o80, _) => 
  (bif (decide ((v71 : Int) < (IntKind.wrap .i64 (v72 - v73)))) && (decide ((IntKind.wrap .i64 (v72 - v73) : Int) < v70)) then 
  (self_sort_sM_fB (v71, IntKind.wrap .i64 (v72 - v73), v70, (()), o80, ())).bind fun (o81, o82, _) => some ((()), o82, ())
  else some ((()), o80, ()))
  else 
  (bif (decide ((v71 : Int) < (IntKind.wrap .i64 (v72 - v73)))) && (decide ((IntKind.wrap .i64 (v72 - v73) : Int) < v70)) then 
  (self_sort_sM_fB (v71, IntKind.wrap .i64 (v72 - v73), v70, (()), o78, ())).bind fun (o83, o84, _) => some ((()), o84, ())
  else some ((()), o78, ())))
  else 
  (bif (decide ((v68 : Int) < v73)) && (decide ((v73 : Int) < v71)) then 
  (self_sort_sM_fB (v68, v73, v71, (()), o76, ())).bind fun (o85, o86, _) => 
  (bif (decide ((v71 : Int) < (IntKind.wrap .i64 (v72 - v73)))) && (decide ((IntKind.wrap .i64 (v72 - v73) : Int) < v70)) then 
  (self_sort_sM_fB (v71, IntKind.wrap .i64 (v72 - v73), v70, (()), o86, ())).bind fun (o87, o88, _) => some ((()), o88, ())
  else some ((()), o86, ()))
  else 
  (bif (decide ((v71 : Int) < (IntKind.wrap .i64 (v72 - v73)))) && (decide ((IntKind.wrap .i64 (v72 - v73) : Int) < v70)) then 
  (self_sort_sM_fB (v71, IntKind.wrap .i64 (v72 - v73), v70, (()), o76, ())).bind fun (o89, o90, _) => some ((()), o90, ())
  else some ((()), o76, ()))))) (fun (_) => none)) (n) (a1, a2, a3, IntKind.wrap .i64 (bshr .u64 (IntKind.wrap .u64 (IntKind.wrap .i64 (a1 + a3))) 1), IntKind.wrap .i64 ((IntKind.wrap .i64 (bshr .u64 (IntKind.wrap .u64 (IntKind.wrap .i64 (a1 + a3))) 1)) + a2), IntKind.wrap .i64 ((IntKind.wrap .i64 ((IntKind.wrap .i64 (bshr .u64 (IntKind.wrap .u64 (IntKind.wrap .i64 (a1 + a3))) 1)) + a2)) - a3), IntKind.wrap .i64 (bshr .u64 (IntKind.wrap .u64 (IntKind.wrap .i64 (a1 + a3))) 1), IntKind.wrap .i64 ((IntKind.wrap .i64 ((IntKind.wrap .i64 (bshr .u64 (IntKind.wrap .u64 (IntKind.wrap .i64 (a1 + a3))) 1)) + a2)) - 1), (()), (()), o5, ())
  else 
  iterN (fun rc115 => sort_sM_fB_s8 self_sort_sM_fB n rc115 (fun (v92, v93, v94, v95, v96, v97, o98, o99, o100, _) => 
  (bif (decide ((v97 : Int) < v93)) && (decide ((v93 : Int) < (IntKind.wrap .i64 (v96 - v97)))) then 
  (sort_rotate_fB n (v97, v93, IntKind.wrap .i64 (v96 - v97), (()), o100, ())).bind fun (o101, o102, _) => 
  (bif (decide ((v92 : Int) < v97)) && (decide ((v97 : Int) < v95)) then 
  (self_sort_sM_fB (v92, v97, v95, (()), o102, ())).bind fun (o103, o104, _) => 
  (bif (decide ((v95 : Int) < (IntKind.wrap .i64 (v96 - v97)))) && (decide ((IntKind.wrap .i64 (v96 - v97) : Int) < v94)) then 
  (self_sort_sM_fB (v95, IntKind.wrap .i64 (v96 - v97), v94, (()), o104, ())).bind fun (o105, o106, _) => some ((()), o106, ())
  else some ((()), o104, ()))
  else 
  (bif (decide ((v95 : Int) < (IntKind.wrap .i64 (v96 - v97)))) && (decide ((IntKind.wrap .i64 (v96 - v97) : Int) < v94)) then 
  (self_sort_sM_fB (v95, IntKind.wrap .i64 (v96 - v97), v94, (()), o102, ())).bind fun (o107, o108, _) => some ((()), o108, ())
  else some ((()), o102, ())))
  else 
  (bif (decide ((v92 : Int) < v97)) && (decide ((v97 : Int) < v95)) then 
  (self_sort_sM_fB (v92, v97, v95, (()), o100, ())).bind fun (o109, o110, _) => 
  (bif (decide ((v95 : Int) < (IntKind.wrap .i64 (v96 - v97)))) && (decide ((IntKind.wrap .i64 (v96 - v97) : Int) < v94)) then 
  (self_sort_sM_fB (v95, IntKind.wrap .i64 (v96 - v97), v94, (()), o110, ())).bind fun (o111, o112, _) => some ((()), o112, ())
  else some ((()), o110, ()))
  else 
  (bif (decide ((v95 : Int) < (IntKind.wrap .i64 (v96 - v97)))) && (decide ((IntKind.wrap .i64 (v96 - v97) : Int) < v94)) then 
  (self_sort_sM_fB (v95, IntKind.wrap .i64 (v96 - v97), v94, (()), o100, ())).bind fun (o113, o114, _) => some ((()), o114, ())
  else some ((()), o100, ()))))) (fun (_) => none)) (n) (a1, a2, a3, IntKind.wrap .i64 (bshr .u64 (IntKind.wrap .u64 (IntKind.wrap .i64 (a1 + a3))) 1), IntKind.wrap .i64 ((IntKind.wrap .i64 (bshr .u64 (IntKind.wrap .u64 (IntKind.wrap .i64 (a1 + a3))) 1)) + a2), a1, a2, IntKind.wrap .i64 ((IntKind.wrap .i64 ((IntKind.wrap .i64 (bshr .u64 (IntKind.wrap .u64 (IntKind.wrap .i64 (a1 + a3))) 1)) + a2)) - 1), (()), (()), o5, ()))))

noncomputable def sort_sM_fB : Nat → Int × Int × Int × Unit × (List Ev.Cnt) × Unit → Option (Unit × (List Ev.Cnt) × Unit)
  | 0, _ => none
  | n + 1, x => sort_sM_fB_b (sort_sM_fB n) n x

/-- a round of a loop of sort.stable_func -/
noncomputable def sort_stable_fB_s0 {ρ : Type} (n : Nat) (rec : Int × Int × Int × Int × Unit × Unit × (List Ev.Cnt) × Unit → Option ρ) (kx : Int × Int × Int × Unit × Unit × (List Ev.Cnt) × Unit → Option ρ) (kr : Unit → Option ρ) : Int × Int × Int × Int × Unit × Unit × (List Ev.Cnt) × Unit → Option ρ :=
  fun (v4, v5, v6, v7, o8, o9, o10, _) => 
  (bif decide ((v7 : Int) ≤ v4) then 
  (sort_iS_fB n (v6, v7, (()), o10, ())).bind fun (o11, o12, _) => rec (v4, v5, v7, IntKind.wrap .i64 (v7 + v5), (()), (()), o12, ())
  else kx (v4, v5, v6, (()), (()), o10, ()))

/-- a round of a loop of sort.stable_func -/
noncomputable def sort_stable_fB_s4 {ρ : Type} (n : Nat) (rec : Int × Int × Int × Int × Unit × Unit × (List Ev.Cnt) × Unit → Option ρ) (kx : Int × Int × Int × Unit × Unit × (List Ev.Cnt) × Unit → Option ρ) (kr : Unit → Option ρ) : Int × Int × Int × Int × Unit × Unit × (List Ev.Cnt) × Unit → Option ρ :=
  fun (v26, v27, v28, v29, o30, o31, o32, _) => 
  (bif decide ((v29 : Int) ≤ v26) then 
  (sort_sM_fB n (v28, IntKind.wrap .i64 (v28 + v27), v29, (()), o32, ())).bind fun (o33, o34, _) => rec (v26, v27, v29, IntKind.wrap .i64 (v29 + (IntKind.wrap .i64 (2 * v27))), (()), (()), o34, ())
  else kx (v26, v27, v28, (()), (()), o32, ()))

/-- a round of a loop of sort.stable_func -/
noncomputable def sort_stable_fB_s2 {ρ : Type} (n : Nat) (rec : Int × Int × Unit × Unit × (List Ev.Cnt) × Unit → Option ρ) (kx : Unit × (List Ev.Cnt) × Unit → Option ρ) (kr : Unit → Option ρ) : Int × Int × Unit × Unit × (List Ev.Cnt) × Unit → Option ρ :=
  fun (v21, v22, o23, o24, o25, _) => 
  (bif decide ((v22 : Int) < v21) then 
  iterN (fun rc43 => sort_stable_fB_s4 n rc43 (fun (v35, v36, v37, o38, o39, o40, _) => 
  (bif decide ((IntKind.wrap .i64 (v37 + v36) : Int) < v35) then 
  (sort_sM_fB n (v37, IntKind.wrap .i64 (v37 + v36), v35, (()), o40, ())).bind fun (o41, o42, _) => rec (v35, IntKind.wrap .i64 (v36 * 2), (()), (()), o42, ())
  else rec (v35, IntKind.wrap .i64 (v36 * 2), (()), (()), o40, ()))) (fun (_) => none)) (n) (v21, v22, 0, IntKind.wrap .i64 (2 * v22), (()), (()), o25, ())
  else kx ((()), o25, ()))

/-- sort.stable_func -/
noncomputable def sort_stable_fB (n : Nat) : Int × Unit × (List Ev.Cnt) × Unit → Option (Unit × (List Ev.Cnt) × Unit) :=
  fun (a1, o2, o3, _) => 
  iterN (fun rc47 => sort_stable_fB_s0 n rc47 (fun (v13, v14, v15, o16, o17, o18, _) => 
  (sort_iS_fB n (v15, v13, (()), o18, ())).bind fun (o19, o20, _) => 
  iterN (fun rc46 => sort_stable_fB_s2 n rc46 (fun (o44, o45, _) => some ((()), o45, ())) (fun (_) => none)) (n) (v13, v14, (()), (()), o20, ())) (fun (_) => none)) (n) (a1, 20, 0, 20, (()), (()), o3, ())

/-- sort.SliceStable over it -/
noncomputable def ssN_sort_stable_fB (n : Nat) := ssN (sort_stable_fB n)

/-- a round of a loop of espalierref.BagOf -/
noncomputable def eR_BagOf_s2 {ρ : Type} (n : Nat) (rec : Int × Unit × (List Ev.Cnt) × (Ev.Cnt × Unit) × (List Ev.Cnt) × Unit → Option ρ) (kx : Int × Unit × (List Ev.Cnt) × (Ev.Cnt × Unit) × (List Ev.Cnt) × Unit → Option ρ) (kr : Unit → Option ρ) : Int × Unit × (List Ev.Cnt) × (Ev.Cnt × Unit) × (List Ev.Cnt) × Unit → Option ρ :=
  fun (v10, o11, o12, o13, o14, _) => 
  (bif decide ((v10 : Int) < (o14.length : Int)) then 
  (ix o14 v10).bind fun _ => 
  ((o14)[(v10 : Int).toNat]?).bind fun e15 => 
  (eR_CompareRows n (e15.r, o13.1.r, ())).bind fun (y16, _) => 
  (bif (y16 : Int) == 0 then 
  (ix o14 v10).bind fun _ => 
  ((o14)[(v10 : Int).toNat]?).bind fun e18 => rec (IntKind.wrap .i64 (v10 + 1), (()), o12, ((Ev.Cnt.mk o13.1.r (IntKind.wrap .i64 (o13.1.n + e18.n))), ()), o14, ())
  else kx (v10, (()), o12, ((Ev.Cnt.mk o13.1.r o13.1.n), ()), o14, ()))
  else kx (v10, (()), o12, ((Ev.Cnt.mk o13.1.r o13.1.n), ()), o14, ()))

/-- a round of a loop of espalierref.BagOf -/
noncomputable def eR_BagOf_s0 {ρ : Type} (n : Nat) (rec : Int × Unit × (List Ev.Cnt) × (List Ev.Cnt) × Unit → Option ρ) (kx : (List Ev.Cnt) × Unit → Option ρ) (kr : Unit → Option ρ) : Int × Unit × (List Ev.Cnt) × (List Ev.Cnt) × Unit → Option ρ :=
  fun (v5, o6, o7, o8, _) => 
  (bif decide ((v5 : Int) < (o8.length : Int)) then 
  (ix o8 v5).bind fun _ => 
  ((o8)[(v5 : Int).toNat]?).bind fun e9 => 
  iterN (fun rc24 => eR_BagOf_s2 n rc24 (fun (v19, o20, o21, o22, o23, _) => 
  (bif (o22.1.n : Int) != 0 then 
  ck (room (o21 ++ ([(Ev.Cnt.mk o22.1.r o22.1.n)] : List Ev.Cnt)).length 32) (rec (v19, (()), o21 ++ ([(Ev.Cnt.mk o22.1.r o22.1.n)] : List Ev.Cnt), o23, ()))
  else rec (v19, (()), o21, o23, ()))) (fun (_) => none)) (n) (v5, (()), o7, ((Ev.Cnt.mk e9.r 0), ()), o8, ())
  else kx (o7, ()))

/-- espalierref.BagOf -/
noncomputable def eR_BagOf (n : Nat) : (List Ev.Cnt) × Unit → Option ((List Ev.Cnt) × Unit) :=
  fun (a1, _) => 
  (sl_Clone_C_C_own (a1, ())).bind fun (o2, _) => 
  (ssN_sort_stable_fB n (o2, (()), ())).bind fun (o3, o4, _) => 
  iterN (fun rc26 => eR_BagOf_s0 n rc26 (fun (o25, _) => some (o25, ())) (fun (_) => none)) (n) (0, (()), ([] : List Ev.Cnt), o3, ())

/-- espalierlaw.bags -/
noncomputable def eL_bags (n : Nat) : (List Ev.Cnt) × Int × (List Ev.Cnt) × Unit → Option (Bool × Unit) :=
  fun (a1, a2, a3, _) => 
  (eR_CheckBag n (a3, ())).bind fun (y4, _) => 
  (bif (y4 : Int) != 0 then some (((a2 : Int) == y4) && (((a1.length : Int) : Int) == 0), ())
  else 
  (bif (a2 : Int) == 0 then 
  (eR_SameBag n (a1, a3, ())).bind fun (y5, _) => some (y5, ())
  else some (false, ())))

/-- a round of a loop of espalierlaw.BagJoin -/
noncomputable def eL_BagJoin_s2 {ρ : Type} (n : Nat) (rec : (List Ev.Cnt) × (List Ev.Cnt) × Int × (List Ev.Cnt) × Int × Int × (List (List Ev.Cnt)) × Int × Int × (List Ev.Cnt) × Int × Int × Unit → Option ρ) (kx : (List Ev.Cnt) × (List Ev.Cnt) × Int × (List Ev.Cnt) × Int × Int × (List (List Ev.Cnt)) × Int × Int × Unit → Option ρ) (kr : Unit → Option ρ) : (List Ev.Cnt) × (List Ev.Cnt) × Int × (List Ev.Cnt) × Int × Int × (List (List Ev.Cnt)) × Int × Int × (List Ev.Cnt) × Int × Int × Unit → Option ρ :=
  fun (v16, v17, v18, v19, v20, v21, v22, v23, v24, v25, v26, v27, _) => 
  (bif decide ((v27 : Int) < v26) then 
  (ix v25 v27).bind fun x28 => 
  (bif ((v21 : Int) == 0) && (decide (((x28.r.length : Int) : Int) < v18)) then rec (v16, v17, v18, v19, v20, 9, v22, v23, v24, v25, v26, IntKind.wrap .i64 (v27 + 1), ())
  else rec (v16, v17, v18, v19, v20, v21, v22, v23, v24, v25, v26, IntKind.wrap .i64 (v27 + 1), ()))
  else kx (v16, v17, v18, v19, v20, v21, v22, v23, v24, ()))

/-- a round of a loop of espalierlaw.BagJoin -/
noncomputable def eL_BagJoin_s0 {ρ : Type} (n : Nat) (rec : (List Ev.Cnt) × (List Ev.Cnt) × Int × (List Ev.Cnt) × Int × Int × (List (List Ev.Cnt)) × Int × Int × Unit → Option ρ) (kx : (List Ev.Cnt) × (List Ev.Cnt) × Int × (List Ev.Cnt) × Int × Int × Unit → Option ρ) (kr : Unit → Option ρ) : (List Ev.Cnt) × (List Ev.Cnt) × Int × (List Ev.Cnt) × Int × Int × (List (List Ev.Cnt)) × Int × Int × Unit → Option ρ :=
  fun (v6, v7, v8, v9, v10, v11, v12, v13, v14, _) => 
  (bif decide ((v14 : Int) < v13) then 
  (ix v12 v14).bind fun x15 => 
  iterN (fun rc38 => eL_BagJoin_s2 n rc38 (fun (v29, v30, v31, v32, v33, v34, v35, v36, v37, _) => rec (v29, v30, v31, v32, v33, v34, v35, v36, IntKind.wrap .i64 (v37 + 1), ())) (fun (_) => none)) (n) (v6, v7, v8, v9, v10, v11, v12, v13, v14, x15, (x15.length : Int), 0, ())
  else kx (v6, v7, v8, v9, v10, v11, ()))

/-- a round of a loop of espalierlaw.BagJoin -/
noncomputable def eL_BagJoin_s4 {ρ : Type} (n : Nat) (rec : (List Ev.Cnt) × (List Ev.Cnt) × Int × (List Ev.Cnt) × Int × Int × (List (List Ev.Cnt)) × Int × Int × Unit → Option ρ) (kx : (List Ev.Cnt) × (List Ev.Cnt) × Int × (List Ev.Cnt) × Int × Int × Unit → Option ρ) (kr : Unit → Option ρ) : (List Ev.Cnt) × (List Ev.Cnt) × Int × (List Ev.Cnt) × Int × Int × (List (List Ev.Cnt)) × Int × Int × Unit → Option ρ :=
  fun (v45, v46, v47, v48, v49, v50, v51, v52, v53, _) => 
  (bif decide ((v53 : Int) < v52) then 
  (ix v51 v53).bind fun x54 => 
  (bif (v50 : Int) == 0 then 
  (eR_CheckBag n (x54, ())).bind fun (y55, _) => rec (v45, v46, v47, v48, v49, y55, v51, v52, IntKind.wrap .i64 (v53 + 1), ())
  else rec (v45, v46, v47, v48, v49, v50, v51, v52, IntKind.wrap .i64 (v53 + 1), ()))
  else kx (v45, v46, v47, v48, v49, v50, ()))

/-- a round of a loop of espalierlaw.BagJoin -/
noncomputable def eL_BagJoin_s10 {ρ : Type} (n : Nat) (rec : (List Ev.Cnt) × (List Ev.Cnt) × Int × (List Ev.Cnt) × Int × Int × Int × Bool × (List Ev.Cnt) × Int × Int × Int × Int × (List Ev.Cnt) × (Ev.Cnt × Unit) × (Ev.Cnt × Unit) × Unit → Option ρ) (kx : (List Ev.Cnt) × (List Ev.Cnt) × Int × (List Ev.Cnt) × Int × Int × Int × Bool × (List Ev.Cnt) × Int × Int × (List Ev.Cnt) × (Ev.Cnt × Unit) × (Ev.Cnt × Unit) × Unit → Option ρ) (kr : Unit → Option ρ) : (List Ev.Cnt) × (List Ev.Cnt) × Int × (List Ev.Cnt) × Int × Int × Int × Bool × (List Ev.Cnt) × Int × Int × Int × Int × (List Ev.Cnt) × (Ev.Cnt × Unit) × (Ev.Cnt × Unit) × Unit → Option ρ :=
  fun (v83, v84, v85, v86, v87, v88, v89, v90, v91, v92, v93, v94, v95, o96, o97, o98, _) => 
  (bif decide ((v95 : Int) < v94) then 
  (bif v90 then 
  (ix o98.1.r v95).bind fun x99 => 
  (bif (x99.kind : Int) != 0 then 
  (ix o98.1.r v95).bind fun x100 => 
  (ix o97.1.r v95).bind fun x101 => 
  (eR_SameValue n ((Ev.Val.mk x100.kind x100.n x100.s x100.l), (Ev.Val.mk x101.kind x101.n x101.s x101.l), ())).bind fun (y102, _) => rec (v83, v84, v85, v86, v87, v88, v89, y102, v91, v92, v93, v94, IntKind.wrap .i64 (v95 + 1), o96, ((Ev.Cnt.mk o97.1.r o97.1.n), ()), ((Ev.Cnt.mk o98.1.r o98.1.n), ()), ())
  else rec (v83, v84, v85, v86, v87, v88, v89, false, v91, v92, v93, v94, IntKind.wrap .i64 (v95 + 1), o96, ((Ev.Cnt.mk o97.1.r o97.1.n), ()), ((Ev.Cnt.mk o98.1.r o98.1.n), ()), ()))
  else rec (v83, v84, v85, v86, v87, v88, v89, false, v91, v92, v93, v94, IntKind.wrap .i64 (v95 + 1), o96, ((Ev.Cnt.mk o97.1.r o97.1.n), ()), ((Ev.Cnt.mk o98.1.r o98.1.n), ()), ()))
  else kx (v83, v84, v85, v86, v87, v88, v89, v90, v91, v92, v93, o96, ((Ev.Cnt.mk o97.1.r o97.1.n), ()), ((Ev.Cnt.mk o98.1.r o98.1.n), ()), ()))

/-- a round of a loop of espalierlaw.BagJoin -/
noncomputable def eL_BagJoin_s8 {ρ : Type} (n : Nat) (rec : (List Ev.Cnt) × (List Ev.Cnt) × Int × (List Ev.Cnt) × Int × Int × Int × (List Ev.Cnt) × Int × Int × (List Ev.Cnt) × Unit → Option ρ) (kx : (List Ev.Cnt) × (List Ev.Cnt) × Int × (List Ev.Cnt) × Int × Int × Int × (List Ev.Cnt) × Unit → Option ρ) (kr : Unit → Option ρ) : (List Ev.Cnt) × (List Ev.Cnt) × Int × (List Ev.Cnt) × Int × Int × Int × (List Ev.Cnt) × Int × Int × (List Ev.Cnt) × Unit → Option ρ :=
  fun (v70, v71, v72, v73, v74, v75, v76, v77, v78, v79, o80, _) => 
  (bif decide ((v79 : Int) < v78) then 
  (ix v77 v79).bind fun x81 => 
  (ix v70 v76).bind fun x82 => 
  iterN (fun rc125 => eL_BagJoin_s10 n rc125 (fun (v103, v104, v105, v106, v107, v108, v109, v110, v111, v112, v113, o114, o115, o116, _) => 
  (bif !v110 then rec (v103, v104, v105, v106, v107, v108, v109, v111, v112, IntKind.wrap .i64 (v113 + 1), o114, ())
  else 
  (eL_num (o116.1.n, ())).bind fun (y118, _) => 
  (eL_num (o115.1.n, ())).bind fun (y119, _) => 
  (eR_ReckonOf n ((⟨#[42]⟩ : ByteArray), (Ev.Val.mk y118.kind y118.n y118.s y118.l), (Ev.Val.mk y119.kind y119.n y119.s y119.l), ())).bind fun (y120, y121, _) => 
  (bif (((y121 : Int) != 0) || (decide ((y120.n : Int) > 1099511627776))) || (decide ((y120.n : Int) < (-1099511627776))) then kx (v103, v104, v105, v106, v107, 9, v109, o114, ())
  else 
  (lsl o115.1.r v105 (o115.1.r.length : Int)).bind fun l123 => 
  (sl_Concat_W_V n (([o116.1.r, l123] : List (List Ev.Val)), ())).bind fun (y124, _) => 
  ck (room (o114 ++ ([(Ev.Cnt.mk y124 y120.n)] : List Ev.Cnt)).length 32) (rec (v103, v104, v105, v106, v107, v108, v109, v111, v112, IntKind.wrap .i64 (v113 + 1), o114 ++ ([(Ev.Cnt.mk y124 y120.n)] : List Ev.Cnt), ()))))) (fun (_) => none)) (n) (v70, v71, v72, v73, v74, v75, v76, true, v77, v78, v79, v72, 0, o80, ((Ev.Cnt.mk x81.r x81.n), ()), ((Ev.Cnt.mk x82.r x82.n), ()), ())
  else kx (v70, v71, v72, v73, v74, v75, v76, o80, ()))

/-- a round of a loop of espalierlaw.BagJoin -/
noncomputable def eL_BagJoin_s6 {ρ : Type} (n : Nat) (rec : (List Ev.Cnt) × (List Ev.Cnt) × Int × (List Ev.Cnt) × Int × Int × Int × (List Ev.Cnt) × Unit → Option ρ) (kx : (List Ev.Cnt) × Int × Int × (List Ev.Cnt) × Unit → Option ρ) (kr : Unit → Option ρ) : (List Ev.Cnt) × (List Ev.Cnt) × Int × (List Ev.Cnt) × Int × Int × Int × (List Ev.Cnt) × Unit → Option ρ :=
  fun (v62, v63, v64, v65, v66, v67, v68, o69, _) => 
  (bif ((v67 : Int) == 0) && (decide ((v68 : Int) < (v62.length : Int))) then 
  iterN (fun rc134 => eL_BagJoin_s8 n rc134 (fun (v126, v127, v128, v129, v130, v131, v132, o133, _) => rec (v126, v127, v128, v129, v130, v131, IntKind.wrap .i64 (v132 + 1), o133, ())) (fun (_) => none)) (n) (v62, v63, v64, v65, v66, v67, v68, v63, (v63.length : Int), 0, o69, ())
  else kx (v65, v66, v67, o69, ()))

noncomputable def F_eL_BagJoin_s2 {ρ : Type} (n : Nat) (kr : Unit → Option ρ) : Int → Ev.Cnt → ((List Ev.Cnt) × (List Ev.Cnt) × Int × (List Ev.Cnt) × Int × Int × (List (List Ev.Cnt)) × Int × Int × Unit) → (((List Ev.Cnt) × (List Ev.Cnt) × Int × (List Ev.Cnt) × Int × Int × (List (List Ev.Cnt)) × Int × Int × Unit) → Option ρ) → Option ρ :=
  fun v27 x28 (v16, v17, v18, v19, v20, v21, v22, v23, v24, _) rec =>  
  (bif ((v21 : Int) == 0) && (decide (((x28.r.length : Int) : Int) < v18)) then rec (v16, v17, v18, v19, v20, 9, v22, v23, v24, ())
  else rec (v16, v17, v18, v19, v20, v21, v22, v23, v24, ()))

theorem R_eL_BagJoin_s2 {ρ : Type} (n : Nat) (kx : (List Ev.Cnt) × (List Ev.Cnt) × Int × (List Ev.Cnt) × Int × Int × (List (List Ev.Cnt)) × Int × Int × Unit → Option ρ) (kr : Unit → Option ρ) (l : List Ev.Cnt) (fuel : Nat) (v16 : List Ev.Cnt) (v17 : List Ev.Cnt) (v18 : Int) (v19 : List Ev.Cnt) (v20 : Int) (v21 : Int) (v22 : List (List Ev.Cnt)) (v23 : Int) (v24 : Int) (hl : l.length ≤ 9223372036854775807) (hf : l.length < fuel) :
    iterN (fun rc => eL_BagJoin_s2 n rc kx kr) fuel (v16, v17, v18, v19, v20, v21, v22, v23, v24, l, (l.length : Int), 0, ()) = foldK (F_eL_BagJoin_s2 n kr) (fun (v16, v17, v18, v19, v20, v21, v22, v23, v24, _) => kx (v16, v17, v18, v19, v20, v21, v22, v23, v24, ())) 0 l (v16, v17, v18, v19, v20, v21, v22, v23, v24, ()) :=
  range_listM l (fun i (v16, v17, v18, v19, v20, v21, v22, v23, v24, _) => (v16, v17, v18, v19, v20, v21, v22, v23, v24, l, (l.length : Int), i, ())) _ _ _ (fun rec i s => rfl) hl fuel (v16, v17, v18, v19, v20, v21, v22, v23, v24, ()) hf

noncomputable def F_eL_BagJoin_s4 {ρ : Type} (n : Nat) (kr : Unit → Option ρ) : Int → ((List Ev.Cnt)) → ((List Ev.Cnt) × (List Ev.Cnt) × Int × (List Ev.Cnt) × Int × Int × Unit) → (((List Ev.Cnt) × (List Ev.Cnt) × Int × (List Ev.Cnt) × Int × Int × Unit) → Option ρ) → Option ρ :=
  fun v53 x54 (v45, v46, v47, v48, v49, v50, _) rec =>  
  (bif (v50 : Int) == 0 then 
  (eR_CheckBag n (x54, ())).bind fun (y55, _) => rec (v45, v46, v47, v48, v49, y55, ())
  else rec (v45, v46, v47, v48, v49, v50, ()))

theorem R_eL_BagJoin_s4 {ρ : Type} (n : Nat) (kx : (List Ev.Cnt) × (List Ev.Cnt) × Int × (List Ev.Cnt) × Int × Int × Unit → Option ρ) (kr : Unit → Option ρ) (l : List (List Ev.Cnt)) (fuel : Nat) (v45 : List Ev.Cnt) (v46 : List Ev.Cnt) (v47 : Int) (v48 : List Ev.Cnt) (v49 : Int) (v50 : Int) (hl : l.length ≤ 9223372036854775807) (hf : l.length < fuel) :
    iterN (fun rc => eL_BagJoin_s4 n rc kx kr) fuel (v45, v46, v47, v48, v49, v50, l, (l.length : Int), 0, ()) = foldK (F_eL_BagJoin_s4 n kr) (fun (v45, v46, v47, v48, v49, v50, _) => kx (v45, v46, v47, v48, v49, v50, ())) 0 l (v45, v46, v47, v48, v49, v50, ()) :=
  range_listM l (fun i (v45, v46, v47, v48, v49, v50, _) => (v45, v46, v47, v48, v49, v50, l, (l.length : Int), i, ())) _ _ _ (fun rec i s => rfl) hl fuel (v45, v46, v47, v48, v49, v50, ()) hf

/-- espalierlaw.BagJoin -/
noncomputable def eL_BagJoin (n : Nat) : (List Ev.Cnt) × (List Ev.Cnt) × Int × Unit → Option (Bool × Unit) :=
  fun (a1, a2, a3, _) => 
  (bag_Join n (a1, a2, a3, ())).bind fun (y4, y5, _) => 
  (bif (decide ((a3 : Int) < 0)) || (decide ((a3 : Int) > 30)) then 
  iterN (fun rc161 => eL_BagJoin_s0 n rc161 (fun (v39, v40, v41, v42, v43, v44, _) => 
  (bif ((v44 : Int) == 0) && (decide ((IntKind.wrap .i64 ((v39.length : Int) * (v40.length : Int)) : Int) > 20000)) then 
  iterN (fun rc144 => eL_BagJoin_s4 n rc144 (fun (v56, v57, v58, v59, v60, v61, _) => 
  iterN (fun rc143 => eL_BagJoin_s6 n rc143 (fun (v135, v136, v137, o138, _) => 
  (eL_bagged n (())).bind fun (y139, _) => 
  (bif (!y139) || ((v137 : Int) != 0) then 
  (eL_bagged n (())).bind fun (y140, _) => some ((y140 && ((v136 : Int) == v137)) && (((v135.length : Int) : Int) == 0), ())
  else 
  (eR_BagOf n (o138, ())).bind fun (y141, _) => 
  (eL_bags n (v135, v136, y141, ())).bind fun (y142, _) => some (y142, ()))) (fun (_) => none)) (n) (v56, v57, v58, v59, v60, v61, 0, ([] : List Ev.Cnt), ())) (fun (_) => none)) (n) (v39, v40, v41, v42, v43, 2, ([v39, v40] : List (List Ev.Cnt)), (([v39, v40] : List (List Ev.Cnt)).length : Int), 0, ())
  else 
  iterN (fun rc160 => eL_BagJoin_s4 n rc160 (fun (v145, v146, v147, v148, v149, v150, _) => 
  iterN (fun rc159 => eL_BagJoin_s6 n rc159 (fun (v151, v152, v153, o154, _) => 
  (eL_bagged n (())).bind fun (y155, _) => 
  (bif (!y155) || ((v153 : Int) != 0) then 
  (eL_bagged n (())).bind fun (y156, _) => some ((y156 && ((v152 : Int) == v153)) && (((v151.length : Int) : Int) == 0), ())
  else 
  (eR_BagOf n (o154, ())).bind fun (y157, _) => 
  (eL_bags n (v151, v152, y157, ())).bind fun (y158, _) => some (y158, ()))) (fun (_) => none)) (n) (v145, v146, v147, v148, v149, v150, 0, ([] : List Ev.Cnt), ())) (fun (_) => none)) (n) (v39, v40, v41, v42, v43, v44, ([v39, v40] : List (List Ev.Cnt)), (([v39, v40] : List (List Ev.Cnt)).length : Int), 0, ()))) (fun (_) => none)) (n) (a1, a2, a3, y4, y5, 9, ([a1, a2] : List (List Ev.Cnt)), (([a1, a2] : List (List Ev.Cnt)).length : Int), 0, ())
  else 
  iterN (fun rc200 => eL_BagJoin_s0 n rc200 (fun (v162, v163, v164, v165, v166, v167, _) => 
  (bif ((v167 : Int) == 0) && (decide ((IntKind.wrap .i64 ((v162.length : Int) * (v163.length : Int)) : Int) > 20000)) then 
  iterN (fun rc183 => eL_BagJoin_s4 n rc183 (fun (v168, v169, v170, v171, v172, v173, _) => 
  iterN (fun rc182 => eL_BagJoin_s6 n rc182 (fun (v174, v175, v176, o177, _) => 
  (eL_bagged n (())).bind fun (y178, _) => 
  (bif (!y178) || ((v176 : Int) != 0) then 
  (eL_bagged n (())).bind fun (y179, _) => some ((y179 && ((v175 : Int) == v176)) && (((v174.length : Int) : Int) == 0), ())
  else 
  (eR_BagOf n (o177, ())).bind fun (y180, _) => 
  (eL_bags n (v174, v175, y180, ())).bind fun (y181, _) => some (y181, ()))) (fun (_) => none)) (n) (v168, v169, v170, v171, v172, v173, 0, ([] : List Ev.Cnt), ())) (fun (_) => none)) (n) (v162, v163, v164, v165, v166, 2, ([v162, v163] : List (List Ev.Cnt)), (([v162, v163] : List (List Ev.Cnt)).length : Int), 0, ())
  else 
  iterN (fun rc199 => eL_BagJoin_s4 n rc199 (fun (v184, v185, v186, v187, v188, v189, _) => 
  iterN (fun rc198 => eL_BagJoin_s6 n rc198 (fun (v190, v191, v192, o193, _) => 
  (eL_bagged n (())).bind fun (y194, _) => 
  (bif (!y194) || ((v192 : Int) != 0) then 
  (eL_bagged n (())).bind fun (y195, _) => some ((y195 && ((v191 : Int) == v192)) && (((v190.length : Int) : Int) == 0), ())
  else 
  (eR_BagOf n (o193, ())).bind fun (y196, _) => 
  (eL_bags n (v190, v191, y196, ())).bind fun (y197, _) => some (y197, ()))) (fun (_) => none)) (n) (v184, v185, v186, v187, v188, v189, 0, ([] : List Ev.Cnt), ())) (fun (_) => none)) (n) (v162, v163, v164, v165, v166, v167, ([v162, v163] : List (List Ev.Cnt)), (([v162, v163] : List (List Ev.Cnt)).length : Int), 0, ()))) (fun (_) => none)) (n) (a1, a2, a3, y4, y5, 0, ([a1, a2] : List (List Ev.Cnt)), (([a1, a2] : List (List Ev.Cnt)).length : Int), 0, ()))

end Pure

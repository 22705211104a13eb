/- Plain functions that compute what functions of the program compute (written by gen.py). -/
import Derived.Test.YtheaknjhanchbaaDoorEvLib
import Derived.Test.YtheaknjhanchbaaDoorPRange
import Derived.Test.YtheaknjhanchbaaDoorEvStab
namespace Pure
open Esp Ev Go
set_option linter.unusedSimpArgs false
set_option linter.unusedVariables false

/-- a round of a loop of value.check -/
noncomputable def value_check_s1 {ρ : Type} (self_value_check : Ev.Val × Int × Unit → Option (Int × Unit)) (n : Nat) (rec : Int × (List Ev.Val) × Int × Int × (Ev.Val × Unit) × Unit → Option ρ) (kx : (Ev.Val × Unit) × Unit → Option ρ) (kr : Int × Unit → Option ρ) : Int × (List Ev.Val) × Int × Int × (Ev.Val × Unit) × Unit → Option ρ :=
  fun (v4, v5, v6, v7, o8, _) => 
  (bif decide ((v7 : Int) < v6) then 
  (ix v5 v7).bind fun x9 => 
  (self_value_check ((Ev.Val.mk x9.kind x9.n x9.s x9.l), IntKind.wrap .i64 (v4 + 1), ())).bind fun (y10, _) => 
  (bif (y10 : Int) != 0 then kr (y10, ())
  else rec (v4, v5, v6, IntKind.wrap .i64 (v7 + 1), ((Ev.Val.mk o8.1.kind o8.1.n o8.1.s o8.1.l), ()), ()))
  else kx (((Ev.Val.mk o8.1.kind o8.1.n o8.1.s o8.1.l), ()), ()))

noncomputable def F_value_check_s1 {ρ : Type} (self_value_check : Ev.Val × Int × Unit → Option (Int × Unit)) (n : Nat) (kr : Int × Unit → Option ρ) : Int → Ev.Val → (Int × (Ev.Val × Unit) × Unit) → ((Int × (Ev.Val × Unit) × Unit) → Option ρ) → Option ρ :=
  fun v7 x9 (v4, o8, _) rec =>  
  (self_value_check ((Ev.Val.mk x9.kind x9.n x9.s x9.l), IntKind.wrap .i64 (v4 + 1), ())).bind fun (y10, _) => 
  (bif (y10 : Int) != 0 then kr (y10, ())
  else rec (v4, ((Ev.Val.mk o8.1.kind o8.1.n o8.1.s o8.1.l), ()), ()))

theorem R_value_check_s1 {ρ : Type} (self_value_check : Ev.Val × Int × Unit → Option (Int × Unit)) (n : Nat) (kx : (Ev.Val × Unit) × Unit → Option ρ) (kr : Int × Unit → Option ρ) (l : List Ev.Val) (fuel : Nat) (v4 : Int) (o8 : Ev.Val × Unit) (hl : l.length ≤ 9223372036854775807) (hf : l.length < fuel) :
    iterN (fun rc => value_check_s1 self_value_check n rc kx kr) fuel (v4, l, (l.length : Int), 0, o8, ()) = foldK (F_value_check_s1 self_value_check n kr) (fun (v4, o8, _) => kx (((Ev.Val.mk o8.1.kind o8.1.n o8.1.s o8.1.l), ()), ())) 0 l (v4, o8, ()) :=
  range_listM l (fun i (v4, o8, _) => (v4, l, (l.length : Int), i, o8, ())) _ _ _ (fun rec i s => rfl) hl fuel (v4, o8, ()) hf

/-- value.check -/
noncomputable def value_check_b (self_value_check : Ev.Val × Int × Unit → Option (Int × Unit)) (n : Nat) : Ev.Val × Int × Unit → Option (Int × Unit) :=
  fun (a1, a2, _) => 
  (bif (a1.kind : Int) == 0 then 
  (bif !((((a1.n : Int) == 0) && (seq a1.s (⟨#[]⟩ : ByteArray))) && (((a1.l.length : Int) : Int) == 0)) then some (6, ())
  else some (0, ()))
  else 
  (bif (a1.kind : Int) == 1 then 
  (bif !(((((a1.n : Int) == 0) || ((a1.n : Int) == 1)) && (seq a1.s (⟨#[]⟩ : ByteArray))) && (((a1.l.length : Int) : Int) == 0)) then some (6, ())
  else some (0, ()))
  else 
  (bif (a1.kind : Int) == 2 then 
  (bif !((seq a1.s (⟨#[]⟩ : ByteArray)) && (((a1.l.length : Int) : Int) == 0)) then some (6, ())
  else some (0, ()))
  else 
  (bif (a1.kind : Int) == 3 then 
  (bif decide (((a1.s.size : Int) : Int) > 4000) then some (2, ())
  else 
  (bif (a1.n : Int) == 0 then 
  (validN (a1.s, ())).bind fun (y3, _) => 
  (bif !(y3 && (((a1.l.length : Int) : Int) == 0)) then some (6, ())
  else some (0, ()))
  else some (6, ())))
  else 
  (bif (a1.kind : Int) == 4 then 
  (bif (decide (((a1.l.length : Int) : Int) > 30)) || (decide ((a2 : Int) > 6)) then some (2, ())
  else 
  iterN (fun rc13 => value_check_s1 self_value_check n rc13 (fun (o11, _) => 
  (bif !(((o11.1.n : Int) == 0) && (seq o11.1.s (⟨#[]⟩ : ByteArray))) then some (6, ())
  else some (0, ()))) (fun (v12, _) => some (v12, ()))) (n) (a2, a1.l, (a1.l.length : Int), 0, ((Ev.Val.mk a1.kind a1.n a1.s a1.l), ()), ()))
  else some (6, ()))))))

noncomputable def value_check : Nat → Ev.Val × Int × Unit → Option (Int × Unit)
  | 0, _ => none
  | n + 1, x => value_check_b (value_check n) n x

/-- value.Check -/
noncomputable def value_Check (n : Nat) : Ev.Val × Unit → Option (Int × Unit) :=
  fun (a1, _) => 
  (value_check n ((Ev.Val.mk a1.kind a1.n a1.s a1.l), 1, ())).bind fun (y2, _) => some (y2, ())

/-- cmp.isNaN int  -/
noncomputable def cmp_isNaN_int : Int × Unit → Option (Bool × Unit) :=
  fun (a1, _) => some ((a1 : Int) != a1, ())

/-- cmp.Compare int  -/
noncomputable def cmp_Compare_int : Int × Int × Unit → Option (Int × Unit) :=
  fun (a1, a2, _) => 
  (cmp_isNaN_int (a1, ())).bind fun (y3, _) => 
  (cmp_isNaN_int (a2, ())).bind fun (y4, _) => 
  (bif y3 then 
  (bif y4 then some (0, ())
  else some ((-1), ()))
  else 
  (bif y4 then some (1, ())
  else 
  (bif decide ((a1 : Int) < a2) then some ((-1), ())
  else 
  (bif decide ((a1 : Int) > a2) then some (1, ())
  else some (0, ())))))

/-- cmp.isNaN string  -/
noncomputable def cmp_isNaN_string : ByteArray × Unit → Option (Bool × Unit) :=
  fun (a1, _) => some (!(seq a1 a1), ())

/-- cmp.Compare string  -/
noncomputable def cmp_Compare_string : ByteArray × ByteArray × Unit → Option (Int × Unit) :=
  fun (a1, a2, _) => 
  (cmp_isNaN_string (a1, ())).bind fun (y3, _) => 
  (cmp_isNaN_string (a2, ())).bind fun (y4, _) => 
  (bif y3 then 
  (bif y4 then some (0, ())
  else some ((-1), ()))
  else 
  (bif y4 then some (1, ())
  else 
  (bif sless a1 a2 then some ((-1), ())
  else 
  (bif !(sless a1 a2 || seq a1 a2) then some (1, ())
  else some (0, ())))))

/-- a round of a loop of slices.CompareFunc   api.Value,  api.Value,api.Value,api.Value  -/
noncomputable def slices_CompareFunc_V_V_V_V_value_Order_s0 {ρ : Type} (self_value_Order : Ev.Val × Ev.Val × Unit → Option (Int × Unit)) (n : Nat) (rec : (List Ev.Val) × (List Ev.Val) × (List Ev.Val) × Int × Int × Unit → Option ρ) (kx : (List Ev.Val) × (List Ev.Val) × Unit → Option ρ) (kr : Int × Unit → Option ρ) : (List Ev.Val) × (List Ev.Val) × (List Ev.Val) × Int × Int × Unit → Option ρ :=
  fun (v3, v4, v5, v6, v7, _) => 
  (bif decide ((v7 : Int) < v6) then 
  (ix v5 v7).bind fun x8 => 
  (bif decide ((v7 : Int) ≥ (v4.length : Int)) then kr (1, ())
  else 
  (ix v4 v7).bind fun x9 => 
  (self_value_Order ((Ev.Val.mk x8.kind x8.n x8.s x8.l), (Ev.Val.mk x9.kind x9.n x9.s x9.l), ())).bind fun (y10, _) => 
  (bif (y10 : Int) != 0 then kr (y10, ())
  else rec (v3, v4, v5, v6, IntKind.wrap .i64 (v7 + 1), ())))
  else kx (v3, v4, ()))

noncomputable def F_slices_CompareFunc_V_V_V_V_value_Order_s0 {ρ : Type} (self_value_Order : Ev.Val × Ev.Val × Unit → Option (Int × Unit)) (n : Nat) (kr : Int × Unit → Option ρ) : Int → Ev.Val → ((List Ev.Val) × (List Ev.Val) × Unit) → (((List Ev.Val) × (List Ev.Val) × Unit) → Option ρ) → Option ρ :=
  fun v7 x8 (v3, v4, _) rec =>  
  (bif decide ((v7 : Int) ≥ (v4.length : Int)) then kr (1, ())
  else 
  (ix v4 v7).bind fun x9 => 
  (self_value_Order ((Ev.Val.mk x8.kind x8.n x8.s x8.l), (Ev.Val.mk x9.kind x9.n x9.s x9.l), ())).bind fun (y10, _) => 
  (bif (y10 : Int) != 0 then kr (y10, ())
  else rec (v3, v4, ())))

theorem R_slices_CompareFunc_V_V_V_V_value_Order_s0 {ρ : Type} (self_value_Order : Ev.Val × Ev.Val × Unit → Option (Int × Unit)) (n : Nat) (kx : (List Ev.Val) × (List Ev.Val) × Unit → Option ρ) (kr : Int × Unit → Option ρ) (l : List Ev.Val) (fuel : Nat) (v3 : List Ev.Val) (v4 : List Ev.Val) (hl : l.length ≤ 9223372036854775807) (hf : l.length < fuel) :
    iterN (fun rc => slices_CompareFunc_V_V_V_V_value_Order_s0 self_value_Order n rc kx kr) fuel (v3, v4, l, (l.length : Int), 0, ()) = foldK (F_slices_CompareFunc_V_V_V_V_value_Order_s0 self_value_Order n kr) (fun (v3, v4, _) => kx (v3, v4, ())) 0 l (v3, v4, ()) :=
  range_listM l (fun i (v3, v4, _) => (v3, v4, l, (l.length : Int), i, ())) _ _ _ (fun rec i s => rfl) hl fuel (v3, v4, ()) hf

/-- slices.CompareFunc   api.Value,  api.Value,api.Value,api.Value  -/
noncomputable def slices_CompareFunc_V_V_V_V_value_Order (self_value_Order : Ev.Val × Ev.Val × Unit → Option (Int × Unit)) (n : Nat) : (List Ev.Val) × (List Ev.Val) × Unit → Option (Int × Unit) :=
  fun (a1, a2, _) => 
  iterN (fun rc14 => slices_CompareFunc_V_V_V_V_value_Order_s0 self_value_Order n rc14 (fun (v11, v12, _) => 
  (bif decide (((v11.length : Int) : Int) < (v12.length : Int)) then some ((-1), ())
  else some (0, ()))) (fun (v13, _) => some (v13, ()))) (n) (a1, a2, a1, (a1.length : Int), 0, ())

/-- a round of a loop of cmp.Or int  -/
noncomputable def cmp_Or_int_s0 {ρ : Type} (n : Nat) (rec : Int × (List Int) × Int × Int × Unit → Option ρ) (kx : Int × Unit → Option ρ) (kr : Int × Unit → Option ρ) : Int × (List Int) × Int × Int × Unit → Option ρ :=
  fun (v2, v3, v4, v5, _) => 
  (bif decide ((v5 : Int) < v4) then 
  (ix v3 v5).bind fun x6 => 
  (bif (x6 : Int) != v2 then kr (x6, ())
  else rec (v2, v3, v4, IntKind.wrap .i64 (v5 + 1), ()))
  else kx (v2, ()))

noncomputable def F_cmp_Or_int_s0 {ρ : Type} (n : Nat) (kr : Int × Unit → Option ρ) : Int → Int → (Int × Unit) → ((Int × Unit) → Option ρ) → Option ρ :=
  fun v5 x6 (v2, _) rec =>  
  (bif (x6 : Int) != v2 then kr (x6, ())
  else rec (v2, ()))

theorem R_cmp_Or_int_s0 {ρ : Type} (n : Nat) (kx : Int × Unit → Option ρ) (kr : Int × Unit → Option ρ) (l : List Int) (fuel : Nat) (v2 : Int) (hl : l.length ≤ 9223372036854775807) (hf : l.length < fuel) :
    iterN (fun rc => cmp_Or_int_s0 n rc kx kr) fuel (v2, l, (l.length : Int), 0, ()) = foldK (F_cmp_Or_int_s0 n kr) (fun (v2, _) => kx (v2, ())) 0 l (v2, ()) :=
  range_listM l (fun i (v2, _) => (v2, l, (l.length : Int), i, ())) _ _ _ (fun rec i s => rfl) hl fuel (v2, ()) hf

/-- cmp.Or int  -/
noncomputable def cmp_Or_int (n : Nat) : (List Int) × Unit → Option (Int × Unit) :=
  fun (a1, _) => 
  iterN (fun rc9 => cmp_Or_int_s0 n rc9 (fun (v7, _) => some (v7, ())) (fun (v8, _) => some (v8, ()))) (n) (0, a1, (a1.length : Int), 0, ())

/-- value.Order -/
noncomputable def value_Order_b (self_value_Order : Ev.Val × Ev.Val × Unit → Option (Int × Unit)) (n : Nat) : Ev.Val × Ev.Val × Unit → Option (Int × Unit) :=
  fun (a1, a2, _) => 
  (cmp_Compare_int (a1.kind, a2.kind, ())).bind fun (y3, _) => 
  (bif (y3 : Int) != 0 then some (y3, ())
  else 
  (cmp_Compare_int (a1.n, a2.n, ())).bind fun (y4, _) => 
  (cmp_Compare_string (a1.s, a2.s, ())).bind fun (y5, _) => 
  (slices_CompareFunc_V_V_V_V_value_Order self_value_Order n (a1.l, a2.l, ())).bind fun (y6, _) => 
  (cmp_Or_int n (([y4, y5, y6] : List Int), ())).bind fun (y7, _) => some (y7, ()))

noncomputable def value_Order : Nat → Ev.Val × Ev.Val × Unit → Option (Int × Unit)
  | 0, _ => none
  | n + 1, x => value_Order_b (value_Order n) n x

/-- a round of a loop of slices.CompareFunc api.Row,api.Row,api.Value,api.Value  -/
noncomputable def slices_CompareFunc_W_W_V_V_value_Order_s0 {ρ : Type} (n : Nat) (rec : (List Ev.Val) × (List Ev.Val) × (List Ev.Val) × Int × Int × Unit → Option ρ) (kx : (List Ev.Val) × (List Ev.Val) × Unit → Option ρ) (kr : Int × Unit → Option ρ) : (List Ev.Val) × (List Ev.Val) × (List Ev.Val) × Int × Int × Unit → Option ρ :=
  fun (v3, v4, v5, v6, v7, _) => 
  (bif decide ((v7 : Int) < v6) then 
  (ix v5 v7).bind fun x8 => 
  (bif decide ((v7 : Int) ≥ (v4.length : Int)) then kr (1, ())
  else 
  (ix v4 v7).bind fun x9 => 
  (value_Order n ((Ev.Val.mk x8.kind x8.n x8.s x8.l), (Ev.Val.mk x9.kind x9.n x9.s x9.l), ())).bind fun (y10, _) => 
  (bif (y10 : Int) != 0 then kr (y10, ())
  else rec (v3, v4, v5, v6, IntKind.wrap .i64 (v7 + 1), ())))
  else kx (v3, v4, ()))

noncomputable def F_slices_CompareFunc_W_W_V_V_value_Order_s0 {ρ : Type} (n : Nat) (kr : Int × Unit → Option ρ) : Int → Ev.Val → ((List Ev.Val) × (List Ev.Val) × Unit) → (((List Ev.Val) × (List Ev.Val) × Unit) → Option ρ) → Option ρ :=
  fun v7 x8 (v3, v4, _) rec =>  
  (bif decide ((v7 : Int) ≥ (v4.length : Int)) then kr (1, ())
  else 
  (ix v4 v7).bind fun x9 => 
  (value_Order n ((Ev.Val.mk x8.kind x8.n x8.s x8.l), (Ev.Val.mk x9.kind x9.n x9.s x9.l), ())).bind fun (y10, _) => 
  (bif (y10 : Int) != 0 then kr (y10, ())
  else rec (v3, v4, ())))

theorem R_slices_CompareFunc_W_W_V_V_value_Order_s0 {ρ : Type} (n : Nat) (kx : (List Ev.Val) × (List Ev.Val) × Unit → Option ρ) (kr : Int × Unit → Option ρ) (l : List Ev.Val) (fuel : Nat) (v3 : List Ev.Val) (v4 : List Ev.Val) (hl : l.length ≤ 9223372036854775807) (hf : l.length < fuel) :
    iterN (fun rc => slices_CompareFunc_W_W_V_V_value_Order_s0 n rc kx kr) fuel (v3, v4, l, (l.length : Int), 0, ()) = foldK (F_slices_CompareFunc_W_W_V_V_value_Order_s0 n kr) (fun (v3, v4, _) => kx (v3, v4, ())) 0 l (v3, v4, ()) :=
  range_listM l (fun i (v3, v4, _) => (v3, v4, l, (l.length : Int), i, ())) _ _ _ (fun rec i s => rfl) hl fuel (v3, v4, ()) hf

/-- slices.CompareFunc api.Row,api.Row,api.Value,api.Value  -/
noncomputable def slices_CompareFunc_W_W_V_V_value_Order (n : Nat) : (List Ev.Val) × (List Ev.Val) × Unit → Option (Int × Unit) :=
  fun (a1, a2, _) => 
  iterN (fun rc14 => slices_CompareFunc_W_W_V_V_value_Order_s0 n rc14 (fun (v11, v12, _) => 
  (bif decide (((v11.length : Int) : Int) < (v12.length : Int)) then some ((-1), ())
  else some (0, ()))) (fun (v13, _) => some (v13, ()))) (n) (a1, a2, a1, (a1.length : Int), 0, ())

/-- bag.Compare -/
noncomputable def bag_Compare (n : Nat) : (List Ev.Val) × (List Ev.Val) × Unit → Option (Int × Unit) :=
  fun (a1, a2, _) => 
  (slices_CompareFunc_W_W_V_V_value_Order n (a1, a2, ())).bind fun (y3, _) => some (y3, ())

/-- a round of a loop of bag.Check -/
noncomputable def bag_Check_s2 {ρ : Type} (n : Nat) (rec : (List Ev.Cnt) × Int × (List Ev.Cnt) × Int × Int × (List Ev.Val) × Int × Int × (Ev.Cnt × Unit) × Unit → Option ρ) (kx : (List Ev.Cnt) × Int × (List Ev.Cnt) × Int × Int × (Ev.Cnt × Unit) × Unit → Option ρ) (kr : Int × Unit → Option ρ) : (List Ev.Cnt) × Int × (List Ev.Cnt) × Int × Int × (List Ev.Val) × Int × Int × (Ev.Cnt × Unit) × Unit → Option ρ :=
  fun (v7, v8, v9, v10, v11, v12, v13, v14, o15, _) => 
  (bif decide ((v14 : Int) < v13) then 
  (ix v12 v14).bind fun x16 => 
  (value_Check n ((Ev.Val.mk x16.kind x16.n x16.s x16.l), ())).bind fun (y17, _) => 
  (bif (y17 : Int) != 0 then kr (y17, ())
  else rec (v7, v8, v9, v10, v11, v12, v13, IntKind.wrap .i64 (v14 + 1), ((Ev.Cnt.mk o15.1.r o15.1.n), ()), ()))
  else kx (v7, v8, v9, v10, v11, ((Ev.Cnt.mk o15.1.r o15.1.n), ()), ()))

/-- a round of a loop of bag.Check -/
noncomputable def bag_Check_s0 {ρ : Type} (n : Nat) (rec : (List Ev.Cnt) × (List Ev.Cnt) × Int × Int × Unit → Option ρ) (kx : Unit → Option ρ) (kr : Int × Unit → Option ρ) : (List Ev.Cnt) × (List Ev.Cnt) × Int × Int × Unit → Option ρ :=
  fun (v2, v3, v4, v5, _) => 
  (bif decide ((v5 : Int) < v4) then 
  (ix v3 v5).bind fun x6 => 
  (bif decide (((x6.r.length : Int) : Int) > 30) then kr (2, ())
  else 
  iterN (fun rc27 => bag_Check_s2 n rc27 (fun (v18, v19, v20, v21, v22, o23, _) => 
  (bif (o23.1.n : Int) == 0 then kr (6, ())
  else 
  (bif decide ((v19 : Int) > 0) then 
  (ix v18 (IntKind.wrap .i64 (v19 - 1))).bind fun x25 => 
  (bag_Compare n (x25.r, o23.1.r, ())).bind fun (y26, _) => 
  (bif decide ((y26 : Int) ≥ 0) then kr (6, ())
  else 
  (bif (decide ((o23.1.n : Int) > 1099511627776)) || (decide ((o23.1.n : Int) < (-1099511627776))) then kr (9, ())
  else rec (v18, v20, v21, IntKind.wrap .i64 (v22 + 1), ())))
  else 
  (bif (decide ((o23.1.n : Int) > 1099511627776)) || (decide ((o23.1.n : Int) < (-1099511627776))) then kr (9, ())
  else rec (v18, v20, v21, IntKind.wrap .i64 (v22 + 1), ()))))) (fun (v24, _) => kr (v24, ()))) (n) (v2, v5, v3, v4, v5, x6.r, (x6.r.length : Int), 0, ((Ev.Cnt.mk x6.r x6.n), ()), ()))
  else kx (()))

noncomputable def F_bag_Check_s2 {ρ : Type} (n : Nat) (kr : Int × Unit → Option ρ) : Int → Ev.Val → ((List Ev.Cnt) × Int × (List Ev.Cnt) × Int × Int × (Ev.Cnt × Unit) × Unit) → (((List Ev.Cnt) × Int × (List Ev.Cnt) × Int × Int × (Ev.Cnt × Unit) × Unit) → Option ρ) → Option ρ :=
  fun v14 x16 (v7, v8, v9, v10, v11, o15, _) rec =>  
  (value_Check n ((Ev.Val.mk x16.kind x16.n x16.s x16.l), ())).bind fun (y17, _) => 
  (bif (y17 : Int) != 0 then kr (y17, ())
  else rec (v7, v8, v9, v10, v11, ((Ev.Cnt.mk o15.1.r o15.1.n), ()), ()))

theorem R_bag_Check_s2 {ρ : Type} (n : Nat) (kx : (List Ev.Cnt) × Int × (List Ev.Cnt) × Int × Int × (Ev.Cnt × Unit) × Unit → Option ρ) (kr : Int × Unit → Option ρ) (l : List Ev.Val) (fuel : Nat) (v7 : List Ev.Cnt) (v8 : Int) (v9 : List Ev.Cnt) (v10 : Int) (v11 : Int) (o15 : Ev.Cnt × Unit) (hl : l.length ≤ 9223372036854775807) (hf : l.length < fuel) :
    iterN (fun rc => bag_Check_s2 n rc kx kr) fuel (v7, v8, v9, v10, v11, l, (l.length : Int), 0, o15, ()) = foldK (F_bag_Check_s2 n kr) (fun (v7, v8, v9, v10, v11, o15, _) => kx (v7, v8, v9, v10, v11, ((Ev.Cnt.mk o15.1.r o15.1.n), ()), ())) 0 l (v7, v8, v9, v10, v11, o15, ()) :=
  range_listM l (fun i (v7, v8, v9, v10, v11, o15, _) => (v7, v8, v9, v10, v11, l, (l.length : Int), i, o15, ())) _ _ _ (fun rec i s => rfl) hl fuel (v7, v8, v9, v10, v11, o15, ()) hf

/-- bag.Check -/
noncomputable def bag_Check (n : Nat) : (List Ev.Cnt) × Unit → Option (Int × Unit) :=
  fun (a1, _) => 
  (bif decide (((a1.length : Int) : Int) > 2000) then some (2, ())
  else 
  iterN (fun rc29 => bag_Check_s0 n rc29 (fun (_) => some (0, ())) (fun (v28, _) => some (v28, ()))) (n) (a1, a1, (a1.length : Int), 0, ()))

/-- a round of a loop of guest.Check -/
noncomputable def guest_Check_s0 {ρ : Type} (n : Nat) (rec : Int × (List (List Ev.Cnt)) × Int × Int × (Ev.Guest × Unit) × Unit → Option ρ) (kx : Int × (Ev.Guest × Unit) × Unit → Option ρ) (kr : Int × Unit → Option ρ) : Int × (List (List Ev.Cnt)) × Int × Int × (Ev.Guest × Unit) × Unit → Option ρ :=
  fun (v2, v3, v4, v5, o6, _) => 
  (bif decide ((v5 : Int) < v4) then 
  (ix v3 v5).bind fun x7 => 
  (bag_Check n (x7, ())).bind fun (y8, _) => 
  (bif (y8 : Int) != 0 then kr (y8, ())
  else 
  (bif ((x7.length : Int) : Int) == 0 then kr (6, ())
  else rec (IntKind.wrap .i64 (v2 + (x7.length : Int)), v3, v4, IntKind.wrap .i64 (v5 + 1), ((Ev.Guest.mk o6.1.view o6.1.queue o6.1.fresh o6.1.at_), ()), ())))
  else kx (v2, ((Ev.Guest.mk o6.1.view o6.1.queue o6.1.fresh o6.1.at_), ()), ()))

noncomputable def F_guest_Check_s0 {ρ : Type} (n : Nat) (kr : Int × Unit → Option ρ) : Int → ((List Ev.Cnt)) → (Int × (Ev.Guest × Unit) × Unit) → ((Int × (Ev.Guest × Unit) × Unit) → Option ρ) → Option ρ :=
  fun v5 x7 (v2, o6, _) rec =>  
  (bag_Check n (x7, ())).bind fun (y8, _) => 
  (bif (y8 : Int) != 0 then kr (y8, ())
  else 
  (bif ((x7.length : Int) : Int) == 0 then kr (6, ())
  else rec (IntKind.wrap .i64 (v2 + (x7.length : Int)), ((Ev.Guest.mk o6.1.view o6.1.queue o6.1.fresh o6.1.at_), ()), ())))

theorem R_guest_Check_s0 {ρ : Type} (n : Nat) (kx : Int × (Ev.Guest × Unit) × Unit → Option ρ) (kr : Int × Unit → Option ρ) (l : List (List Ev.Cnt)) (fuel : Nat) (v2 : Int) (o6 : Ev.Guest × Unit) (hl : l.length ≤ 9223372036854775807) (hf : l.length < fuel) :
    iterN (fun rc => guest_Check_s0 n rc kx kr) fuel (v2, l, (l.length : Int), 0, o6, ()) = foldK (F_guest_Check_s0 n kr) (fun (v2, o6, _) => kx (v2, ((Ev.Guest.mk o6.1.view o6.1.queue o6.1.fresh o6.1.at_), ()), ())) 0 l (v2, o6, ()) :=
  range_listM l (fun i (v2, o6, _) => (v2, l, (l.length : Int), i, o6, ())) _ _ _ (fun rec i s => rfl) hl fuel (v2, o6, ()) hf

/-- guest.Check -/
noncomputable def guest_Check (n : Nat) : Ev.Guest × Unit → Option (Int × Unit) :=
  fun (a1, _) => 
  (bif (decide ((a1.view : Int) < 0)) || (decide ((a1.at_ : Int) < 0)) then some (9, ())
  else 
  iterN (fun rc12 => guest_Check_s0 n rc12 (fun (v9, o10, _) => 
  (bif decide ((v9 : Int) > 40) then some (2, ())
  else 
  (bif o10.1.fresh && (decide ((v9 : Int) > 0)) then some (6, ())
  else some (0, ())))) (fun (v11, _) => some (v11, ()))) (n) (0, a1.queue, (a1.queue.length : Int), 0, ((Ev.Guest.mk a1.view a1.queue a1.fresh a1.at_), ()), ()))

/-- a round of a loop of value.Copy -/
noncomputable def value_Copy_s0 {ρ : Type} (self_value_Copy : Ev.Val × Unit → Option (Ev.Val × Unit)) (n : Nat) (rec : (List Ev.Val) × Int × Int × (Int × Int × ByteArray × Unit) × (Ev.Val × Unit) × (List Ev.Val) × Unit → Option ρ) (kx : (Int × Int × ByteArray × Unit) × (Ev.Val × Unit) × (List Ev.Val) × Unit → Option ρ) (kr : Unit → Option ρ) : (List Ev.Val) × Int × Int × (Int × Int × ByteArray × Unit) × (Ev.Val × Unit) × (List Ev.Val) × Unit → Option ρ :=
  fun (v2, v3, v4, o5, o6, o7, _) => 
  (bif decide ((v4 : Int) < v3) then 
  (ix v2 v4).bind fun x8 => 
  (self_value_Copy ((Ev.Val.mk x8.kind x8.n x8.s x8.l), ())).bind fun (y10, _) => 
  ck (room (o7 ++ ([(Ev.Val.mk y10.kind y10.n y10.s y10.l)] : List Ev.Val)).length 56) (rec (v2, v3, IntKind.wrap .i64 (v4 + 1), (o5.1, o5.2.1, o5.2.2.1, ()), ((Ev.Val.mk o6.1.kind o6.1.n o6.1.s o6.1.l), ()), o7 ++ ([(Ev.Val.mk y10.kind y10.n y10.s y10.l)] : List Ev.Val), ()))
  else kx ((o5.1, o5.2.1, o5.2.2.1, ()), ((Ev.Val.mk o6.1.kind o6.1.n o6.1.s o6.1.l), ()), o7, ()))

noncomputable def F_value_Copy_s0 {ρ : Type} (self_value_Copy : Ev.Val × Unit → Option (Ev.Val × Unit)) (n : Nat) (kr : Unit → Option ρ) : Int → Ev.Val → ((Int × Int × ByteArray × Unit) × (Ev.Val × Unit) × (List Ev.Val) × Unit) → (((Int × Int × ByteArray × Unit) × (Ev.Val × Unit) × (List Ev.Val) × Unit) → Option ρ) → Option ρ :=
  fun v4 x8 (o5, o6, o7, _) rec =>  
  (self_value_Copy ((Ev.Val.mk x8.kind x8.n x8.s x8.l), ())).bind fun (y10, _) => 
  ck (room (o7 ++ ([(Ev.Val.mk y10.kind y10.n y10.s y10.l)] : List Ev.Val)).length 56) (rec ((o5.1, o5.2.1, o5.2.2.1, ()), ((Ev.Val.mk o6.1.kind o6.1.n o6.1.s o6.1.l), ()), o7 ++ ([(Ev.Val.mk y10.kind y10.n y10.s y10.l)] : List Ev.Val), ()))

theorem R_value_Copy_s0 {ρ : Type} (self_value_Copy : Ev.Val × Unit → Option (Ev.Val × Unit)) (n : Nat) (kx : (Int × Int × ByteArray × Unit) × (Ev.Val × Unit) × (List Ev.Val) × Unit → Option ρ) (kr : Unit → Option ρ) (l : List Ev.Val) (fuel : Nat) (o5 : Int × Int × ByteArray × Unit) (o6 : Ev.Val × Unit) (o7 : List Ev.Val) (hl : l.length ≤ 9223372036854775807) (hf : l.length < fuel) :
    iterN (fun rc => value_Copy_s0 self_value_Copy n rc kx kr) fuel (l, (l.length : Int), 0, o5, o6, o7, ()) = foldK (F_value_Copy_s0 self_value_Copy n kr) (fun (o5, o6, o7, _) => kx ((o5.1, o5.2.1, o5.2.2.1, ()), ((Ev.Val.mk o6.1.kind o6.1.n o6.1.s o6.1.l), ()), o7, ())) 0 l (o5, o6, o7, ()) :=
  range_listM l (fun i (o5, o6, o7, _) => (l, (l.length : Int), i, o5, o6, o7, ())) _ _ _ (fun rec i s => rfl) hl fuel (o5, o6, o7, ()) hf

/-- value.Copy -/
noncomputable def value_Copy_b (self_value_Copy : Ev.Val × Unit → Option (Ev.Val × Unit)) (n : Nat) : Ev.Val × Unit → Option (Ev.Val × Unit) :=
  fun (a1, _) => 
  iterN (fun rc14 => value_Copy_s0 self_value_Copy n rc14 (fun (o11, o12, o13, _) => some ((Ev.Val.mk o11.1 o11.2.1 o11.2.2.1 o13), ())) (fun (_) => none)) (n) (a1.l, (a1.l.length : Int), 0, (a1.kind, a1.n, a1.s, ()), ((Ev.Val.mk 0 0 (⟨#[]⟩ : ByteArray) ([] : List Ev.Val)), ()), ([] : List Ev.Val), ())

noncomputable def value_Copy : Nat → Ev.Val × Unit → Option (Ev.Val × Unit)
  | 0, _ => none
  | n + 1, x => value_Copy_b (value_Copy n) n x

/-- a round of a loop of bag.CopyRow -/
noncomputable def bag_CopyRow_s0 {ρ : Type} (n : Nat) (rec : (List Ev.Val) × Int × Int × (List Ev.Val) × Unit → Option ρ) (kx : (List Ev.Val) × Unit → Option ρ) (kr : Unit → Option ρ) : (List Ev.Val) × Int × Int × (List Ev.Val) × Unit → Option ρ :=
  fun (v2, v3, v4, o5, _) => 
  (bif decide ((v4 : Int) < v3) then 
  (ix v2 v4).bind fun x6 => 
  (value_Copy n ((Ev.Val.mk x6.kind x6.n x6.s x6.l), ())).bind fun (y7, _) => 
  ck (room (o5 ++ ([(Ev.Val.mk y7.kind y7.n y7.s y7.l)] : List Ev.Val)).length 56) (rec (v2, v3, IntKind.wrap .i64 (v4 + 1), o5 ++ ([(Ev.Val.mk y7.kind y7.n y7.s y7.l)] : List Ev.Val), ()))
  else kx (o5, ()))

noncomputable def F_bag_CopyRow_s0 {ρ : Type} (n : Nat) (kr : Unit → Option ρ) : Int → Ev.Val → ((List Ev.Val) × Unit) → (((List Ev.Val) × Unit) → Option ρ) → Option ρ :=
  fun v4 x6 (o5, _) rec =>  
  (value_Copy n ((Ev.Val.mk x6.kind x6.n x6.s x6.l), ())).bind fun (y7, _) => 
  ck (room (o5 ++ ([(Ev.Val.mk y7.kind y7.n y7.s y7.l)] : List Ev.Val)).length 56) (rec (o5 ++ ([(Ev.Val.mk y7.kind y7.n y7.s y7.l)] : List Ev.Val), ()))

theorem R_bag_CopyRow_s0 {ρ : Type} (n : Nat) (kx : (List Ev.Val) × Unit → Option ρ) (kr : Unit → Option ρ) (l : List Ev.Val) (fuel : Nat) (o5 : List Ev.Val) (hl : l.length ≤ 9223372036854775807) (hf : l.length < fuel) :
    iterN (fun rc => bag_CopyRow_s0 n rc kx kr) fuel (l, (l.length : Int), 0, o5, ()) = foldK (F_bag_CopyRow_s0 n kr) (fun (o5, _) => kx (o5, ())) 0 l (o5, ()) :=
  range_listM l (fun i (o5, _) => (l, (l.length : Int), i, o5, ())) _ _ _ (fun rec i s => rfl) hl fuel (o5, ()) hf

/-- bag.CopyRow -/
noncomputable def bag_CopyRow (n : Nat) : (List Ev.Val) × Unit → Option ((List Ev.Val) × Unit) :=
  fun (a1, _) => 
  iterN (fun rc9 => bag_CopyRow_s0 n rc9 (fun (o8, _) => some (o8, ())) (fun (_) => none)) (n) (a1, (a1.length : Int), 0, ([] : List Ev.Val), ())

/-- a round of a loop of guest.own -/
noncomputable def guest_own_s0 {ρ : Type} (n : Nat) (rec : (List Ev.Cnt) × Int × Int × (List Ev.Cnt) × Unit → Option ρ) (kx : (List Ev.Cnt) × Unit → Option ρ) (kr : Unit → Option ρ) : (List Ev.Cnt) × Int × Int × (List Ev.Cnt) × Unit → Option ρ :=
  fun (v2, v3, v4, o5, _) => 
  (bif decide ((v4 : Int) < v3) then 
  (ix v2 v4).bind fun x6 => 
  (bag_CopyRow n (x6.r, ())).bind fun (y7, _) => 
  ck (room (o5 ++ ([(Ev.Cnt.mk y7 x6.n)] : List Ev.Cnt)).length 32) (rec (v2, v3, IntKind.wrap .i64 (v4 + 1), o5 ++ ([(Ev.Cnt.mk y7 x6.n)] : List Ev.Cnt), ()))
  else kx (o5, ()))

noncomputable def F_guest_own_s0 {ρ : Type} (n : Nat) (kr : Unit → Option ρ) : Int → Ev.Cnt → ((List Ev.Cnt) × Unit) → (((List Ev.Cnt) × Unit) → Option ρ) → Option ρ :=
  fun v4 x6 (o5, _) rec =>  
  (bag_CopyRow n (x6.r, ())).bind fun (y7, _) => 
  ck (room (o5 ++ ([(Ev.Cnt.mk y7 x6.n)] : List Ev.Cnt)).length 32) (rec (o5 ++ ([(Ev.Cnt.mk y7 x6.n)] : List Ev.Cnt), ()))

theorem R_guest_own_s0 {ρ : Type} (n : Nat) (kx : (List Ev.Cnt) × Unit → Option ρ) (kr : Unit → Option ρ) (l : List Ev.Cnt) (fuel : Nat) (o5 : List Ev.Cnt) (hl : l.length ≤ 9223372036854775807) (hf : l.length < fuel) :
    iterN (fun rc => guest_own_s0 n rc kx kr) fuel (l, (l.length : Int), 0, o5, ()) = foldK (F_guest_own_s0 n kr) (fun (o5, _) => kx (o5, ())) 0 l (o5, ()) :=
  range_listM l (fun i (o5, _) => (l, (l.length : Int), i, o5, ())) _ _ _ (fun rec i s => rfl) hl fuel (o5, ()) hf

/-- guest.own -/
noncomputable def guest_own (n : Nat) : (List Ev.Cnt) × Unit → Option ((List Ev.Cnt) × Unit) :=
  fun (a1, _) => 
  iterN (fun rc9 => guest_own_s0 n rc9 (fun (o8, _) => some (o8, ())) (fun (_) => none)) (n) (a1, (a1.length : Int), 0, ([] : List Ev.Cnt), ())

/-- slices.Clone   api.Count,api.Count  -/
noncomputable def slices_Clone_C_C : (List Ev.Cnt) × Unit → Option ((List Ev.Cnt) × Unit) :=
  fun (a1, _) => 
  nilq a1 (some (([] : List Ev.Cnt), ())) (
  ck (room (([] : List Ev.Cnt) ++ a1).length 32) (some (([] : List Ev.Cnt) ++ a1, ())))

/-- slices.Clone   api.Count,api.Count  -/
noncomputable def slices_Clone_C_C_own : (List Ev.Cnt) × Unit → Option ((List Ev.Cnt) × Unit) :=
  fun (a1, _) => 
  nilq a1 (some (([] : List Ev.Cnt), ())) (
  ck (room (([] : List Ev.Cnt) ++ a1).length 32) (some (([] : List Ev.Cnt) ++ a1, ())))

/-- bag.Gather$1 -/
noncomputable def bag_Gather_1 (n : Nat) : Ev.Cnt × Ev.Cnt × Unit → Option (Int × Unit) :=
  fun (a1, a2, _) => 
  (bag_Compare n (a1.r, a2.r, ())).bind fun (y3, _) => some (y3, ())

/-- a round of a loop of slices.insertionSortCmpFunc api.Count  -/
noncomputable def slices_insertionSortCF_C_bag_Gather_1_s2 {ρ : Type} (n : Nat) (rec : Int × Int × Int × Int × (List Ev.Cnt) × Unit → Option ρ) (kx : Int × Int × Int × (List Ev.Cnt) × Unit → Option ρ) (kr : Unit → Option ρ) : Int × Int × Int × Int × (List Ev.Cnt) × Unit → Option ρ :=
  fun (v8, v9, v10, v11, o12, _) => 
  (bif decide ((v11 : Int) > v8) then 
  (ix o12 v11).bind fun _ => 
  ((o12)[(v11 : Int).toNat]?).bind fun e13 => 
  (ix o12 (IntKind.wrap .i64 (v11 - 1))).bind fun _ => 
  ((o12)[(IntKind.wrap .i64 (v11 - 1) : Int).toNat]?).bind fun e14 => 
  (bag_Gather_1 n ((Ev.Cnt.mk e13.r e13.n), (Ev.Cnt.mk e14.r e14.n), ())).bind fun (y15, _) => 
  (bif decide ((y15 : Int) < 0) then 
  (ix o12 (IntKind.wrap .i64 (v11 - 1))).bind fun _ => 
  ((o12)[(IntKind.wrap .i64 (v11 - 1) : Int).toNat]?).bind fun e20 => 
  (ix o12 v11).bind fun _ => 
  ((o12)[(v11 : Int).toNat]?).bind fun e21 => 
  (ix o12 v11).bind fun _ => 
  ((o12)[(v11 : Int).toNat]?).bind fun e22 => 
  (ix ((o12).set ((v11 : Int).toNat) (Ev.Cnt.mk e20.r e20.n)) (IntKind.wrap .i64 (v11 - 1))).bind fun _ => 
  (((o12).set ((v11 : Int).toNat) (Ev.Cnt.mk e20.r e20.n))[(IntKind.wrap .i64 (v11 - 1) : Int).toNat]?).bind fun e23 => rec (v8, v9, v10, IntKind.wrap .i64 (v11 - 1), ((o12).set ((v11 : Int).toNat) (Ev.Cnt.mk e20.r e20.n)).set ((IntKind.wrap .i64 (v11 - 1) : Int).toNat) (Ev.Cnt.mk e21.r e21.n), ())
  else kx (v8, v9, v10, o12, ()))
  else kx (v8, v9, v10, o12, ()))

/-- a round of a loop of slices.insertionSortCmpFunc api.Count  -/
noncomputable def slices_insertionSortCF_C_bag_Gather_1_s0 {ρ : Type} (n : Nat) (rec : Int × Int × Int × (List Ev.Cnt) × Unit → Option ρ) (kx : (List Ev.Cnt) × Unit → Option ρ) (kr : Unit → Option ρ) : Int × Int × Int × (List Ev.Cnt) × Unit → Option ρ :=
  fun (v4, v5, v6, o7, _) => 
  (bif decide ((v6 : Int) < v5) then 
  iterN (fun rc28 => slices_insertionSortCF_C_bag_Gather_1_s2 n rc28 (fun (v24, v25, v26, o27, _) => rec (v24, v25, IntKind.wrap .i64 (v26 + 1), o27, ())) (fun (_) => none)) (n) (v4, v5, v6, v6, o7, ())
  else kx (o7, ()))

/-- slices.insertionSortCmpFunc api.Count  -/
noncomputable def slices_insertionSortCF_C_bag_Gather_1 (n : Nat) : Int × Int × (List Ev.Cnt) × Unit → Option ((List Ev.Cnt) × Unit) :=
  fun (a1, a2, o3, _) => 
  iterN (fun rc30 => slices_insertionSortCF_C_bag_Gather_1_s0 n rc30 (fun (o29, _) => some (o29, ())) (fun (_) => none)) (n) (a1, a2, IntKind.wrap .i64 (a1 + 1), o3, ())

/-- a round of a loop of slices.swapRangeCmpFunc api.Count  -/
noncomputable def slices_swapRangeCF_C_bag_Gather_1_s0 {ρ : Type} (n : Nat) (rec : Int × Int × Int × Int × (List Ev.Cnt) × Unit → Option ρ) (kx : (List Ev.Cnt) × Unit → Option ρ) (kr : Unit → Option ρ) : Int × Int × Int × Int × (List Ev.Cnt) × Unit → Option ρ :=
  fun (v5, v6, v7, v8, o9, _) => 
  (bif decide ((v8 : Int) < v7) then 
  (ix o9 (IntKind.wrap .i64 (v6 + v8))).bind fun _ => 
  ((o9)[(IntKind.wrap .i64 (v6 + v8) : Int).toNat]?).bind fun e14 => 
  (ix o9 (IntKind.wrap .i64 (v5 + v8))).bind fun _ => 
  ((o9)[(IntKind.wrap .i64 (v5 + v8) : Int).toNat]?).bind fun e15 => 
  (ix o9 (IntKind.wrap .i64 (v5 + v8))).bind fun _ => 
  ((o9)[(IntKind.wrap .i64 (v5 + v8) : Int).toNat]?).bind fun e16 => 
  (ix ((o9).set ((IntKind.wrap .i64 (v5 + v8) : Int).toNat) (Ev.Cnt.mk e14.r e14.n)) (IntKind.wrap .i64 (v6 + v8))).bind fun _ => 
  (((o9).set ((IntKind.wrap .i64 (v5 + v8) : Int).toNat) (Ev.Cnt.mk e14.r e14.n))[(IntKind.wrap .i64 (v6 + v8) : Int).toNat]?).bind fun e17 => rec (v5, v6, v7, IntKind.wrap .i64 (v8 + 1), ((o9).set ((IntKind.wrap .i64 (v5 + v8) : Int).toNat) (Ev.Cnt.mk e14.r e14.n)).set ((IntKind.wrap .i64 (v6 + v8) : Int).toNat) (Ev.Cnt.mk e15.r e15.n), ())
  else kx (o9, ()))

/-- slices.swapRangeCmpFunc api.Count  -/
noncomputable def slices_swapRangeCF_C_bag_Gather_1 (n : Nat) : Int × Int × Int × (List Ev.Cnt) × Unit → Option ((List Ev.Cnt) × Unit) :=
  fun (a1, a2, a3, o4, _) => 
  iterN (fun rc19 => slices_swapRangeCF_C_bag_Gather_1_s0 n rc19 (fun (o18, _) => some (o18, ())) (fun (_) => none)) (n) (a1, a2, a3, 0, o4, ())

/-- a round of a loop of slices.rotateCmpFunc api.Count  -/
noncomputable def slices_rotateCF_C_bag_Gather_1_s0 {ρ : Type} (n : Nat) (rec : Int × Int × Int × (List Ev.Cnt) × Unit → Option ρ) (kx : Int × Int × (List Ev.Cnt) × Unit → Option ρ) (kr : Unit → Option ρ) : Int × Int × Int × (List Ev.Cnt) × Unit → Option ρ :=
  fun (v5, v6, v7, o8, _) => 
  (bif (v6 : Int) != v7 then 
  (bif decide ((v6 : Int) > v7) then 
  (slices_swapRangeCF_C_bag_Gather_1 n (IntKind.wrap .i64 (v5 - v6), v5, v7, o8, ())).bind fun (o9, _) => rec (v5, IntKind.wrap .i64 (v6 - v7), v7, o9, ())
  else 
  (slices_swapRangeCF_C_bag_Gather_1 n (IntKind.wrap .i64 (v5 - v6), IntKind.wrap .i64 ((IntKind.wrap .i64 (v5 + v7)) - v6), v6, o8, ())).bind fun (o10, _) => rec (v5, v6, IntKind.wrap .i64 (v7 - v6), o10, ()))
  else kx (v5, v6, o8, ()))

/-- slices.rotateCmpFunc api.Count  -/
noncomputable def slices_rotateCF_C_bag_Gather_1 (n : Nat) : Int × Int × Int × (List Ev.Cnt) × Unit → Option ((List Ev.Cnt) × Unit) :=
  fun (a1, a2, a3, o4, _) => 
  iterN (fun rc15 => slices_rotateCF_C_bag_Gather_1_s0 n rc15 (fun (v11, v12, o13, _) => 
  (slices_swapRangeCF_C_bag_Gather_1 n (IntKind.wrap .i64 (v11 - v12), v11, v12, o13, ())).bind fun (o14, _) => some (o14, ())) (fun (_) => none)) (n) (a2, IntKind.wrap .i64 (a2 - a1), IntKind.wrap .i64 (a3 - a2), o4, ())

/-- a round of a loop of slices.symMergeCmpFunc api.Count  -/
noncomputable def slices_symMergeCF_C_bag_Gather_1_s0 {ρ : Type} (self_slices_symMergeCF_C_bag_Gather_1 : Int × Int × Int × (List Ev.Cnt) × Unit → Option ((List Ev.Cnt) × Unit)) (n : Nat) (rec : Int × Int × Int × (List Ev.Cnt) × Unit → Option ρ) (kx : Int × Int × (List Ev.Cnt) × Unit → Option ρ) (kr : Unit → Option ρ) : Int × Int × Int × (List Ev.Cnt) × Unit → Option ρ :=
  fun (v5, v6, v7, o8, _) => 
  (bif decide ((v6 : Int) < v7) then 
  (ix o8 (IntKind.wrap .i64 (bshr .u64 (IntKind.wrap .u64 (IntKind.wrap .i64 (v6 + v7))) 1))).bind fun _ => 
  ((o8)[(IntKind.wrap .i64 (bshr .u64 (IntKind.wrap .u64 (IntKind.wrap .i64 (v6 + v7))) 1) : Int).toNat]?).bind fun e11 => 
  (ix o8 v5).bind fun _ => 
  ((o8)[(v5 : Int).toNat]?).bind fun e12 => 
  (bag_Gather_1 n ((Ev.Cnt.mk e11.r e11.n), (Ev.Cnt.mk e12.r e12.n), ())).bind fun (y13, _) => 
  (bif decide ((y13 : Int) < 0) then rec (v5, IntKind.wrap .i64 ((IntKind.wrap .i64 (bshr .u64 (IntKind.wrap .u64 (IntKind.wrap .i64 (v6 + v7))) 1)) + 1), v7, o8, ())
  else rec (v5, v6, IntKind.wrap .i64 (bshr .u64 (IntKind.wrap .u64 (IntKind.wrap .i64 (v6 + v7))) 1), o8, ()))
  else kx (v5, v6, o8, ()))

/-- a round of a loop of slices.symMergeCmpFunc api.Count  -/
noncomputable def slices_symMergeCF_C_bag_Gather_1_s2 {ρ : Type} (self_slices_symMergeCF_C_bag_Gather_1 : Int × Int × Int × (List Ev.Cnt) × Unit → Option ((List Ev.Cnt) × Unit)) (n : Nat) (rec : Int × Int × (List Ev.Cnt) × Unit → Option ρ) (kx : (List Ev.Cnt) × Unit → Option ρ) (kr : Unit → Option ρ) : Int × Int × (List Ev.Cnt) × Unit → Option ρ :=
  fun (v17, v18, o19, _) => 
  (bif decide ((v18 : Int) < (IntKind.wrap .i64 (v17 - 1))) then 
  (ix o19 (IntKind.wrap .i64 (v18 + 1))).bind fun _ => 
  ((o19)[(IntKind.wrap .i64 (v18 + 1) : Int).toNat]?).bind fun e24 => 
  (ix o19 v18).bind fun _ => 
  ((o19)[(v18 : Int).toNat]?).bind fun e25 => 
  (ix o19 v18).bind fun _ => 
  ((o19)[(v18 : Int).toNat]?).bind fun e26 => 
  (ix ((o19).set ((v18 : Int).toNat) (Ev.Cnt.mk e24.r e24.n)) (IntKind.wrap .i64 (v18 + 1))).bind fun _ => 
  (((o19).set ((v18 : Int).toNat) (Ev.Cnt.mk e24.r e24.n))[(IntKind.wrap .i64 (v18 + 1) : Int).toNat]?).bind fun e27 => rec (v17, IntKind.wrap .i64 (v18 + 1), ((o19).set ((v18 : Int).toNat) (Ev.Cnt.mk e24.r e24.n)).set ((IntKind.wrap .i64 (v18 + 1) : Int).toNat) (Ev.Cnt.mk e25.r e25.n), ())
  else kx (o19, ()))

/-- a round of a loop of slices.symMergeCmpFunc api.Count  -/
noncomputable def slices_symMergeCF_C_bag_Gather_1_s4 {ρ : Type} (self_slices_symMergeCF_C_bag_Gather_1 : Int × Int × Int × (List Ev.Cnt) × Unit → Option ((List Ev.Cnt) × Unit)) (n : Nat) (rec : Int × Int × Int × (List Ev.Cnt) × Unit → Option ρ) (kx : Int × Int × (List Ev.Cnt) × Unit → Option ρ) (kr : Unit → Option ρ) : Int × Int × Int × (List Ev.Cnt) × Unit → Option ρ :=
  fun (v31, v32, v33, o34, _) => 
  (bif decide ((v32 : Int) < v33) then 
  (ix o34 v31).bind fun _ => 
  ((o34)[(v31 : Int).toNat]?).bind fun e37 => 
  (ix o34 (IntKind.wrap .i64 (bshr .u64 (IntKind.wrap .u64 (IntKind.wrap .i64 (v32 + v33))) 1))).bind fun _ => 
  ((o34)[(IntKind.wrap .i64 (bshr .u64 (IntKind.wrap .u64 (IntKind.wrap .i64 (v32 + v33))) 1) : Int).toNat]?).bind fun e38 => 
  (bag_Gather_1 n ((Ev.Cnt.mk e37.r e37.n), (Ev.Cnt.mk e38.r e38.n), ())).bind fun (y39, _) => 
  (bif !(decide ((y39 : Int) < 0)) then rec (v31, IntKind.wrap .i64 ((IntKind.wrap .i64 (bshr .u64 (IntKind.wrap .u64 (IntKind.wrap .i64 (v32 + v33))) 1)) + 1), v33, o34, ())
  else rec (v31, v32, IntKind.wrap .i64 (bshr .u64 (IntKind.wrap .u64 (IntKind.wrap .i64 (v32 + v33))) 1), o34, ()))
  else kx (v31, v32, o34, ()))

/-- a round of a loop of slices.symMergeCmpFunc api.Count  -/
noncomputable def slices_symMergeCF_C_bag_Gather_1_s6 {ρ : Type} (self_slices_symMergeCF_C_bag_Gather_1 : Int × Int × Int × (List Ev.Cnt) × Unit → Option ((List Ev.Cnt) × Unit)) (n : Nat) (rec : Int × Int × (List Ev.Cnt) × Unit → Option ρ) (kx : (List Ev.Cnt) × Unit → Option ρ) (kr : Unit → Option ρ) : Int × Int × (List Ev.Cnt) × Unit → Option ρ :=
  fun (v43, v44, o45, _) => 
  (bif decide ((v44 : Int) > v43) then 
  (ix o45 (IntKind.wrap .i64 (v44 - 1))).bind fun _ => 
  ((o45)[(IntKind.wrap .i64 (v44 - 1) : Int).toNat]?).bind fun e50 => 
  (ix o45 v44).bind fun _ => 
  ((o45)[(v44 : Int).toNat]?).bind fun e51 => 
  (ix o45 v44).bind fun _ => 
  ((o45)[(v44 : Int).toNat]?).bind fun e52 => 
  (ix ((o45).set ((v44 : Int).toNat) (Ev.Cnt.mk e50.r e50.n)) (IntKind.wrap .i64 (v44 - 1))).bind fun _ => 
  (((o45).set ((v44 : Int).toNat) (Ev.Cnt.mk e50.r e50.n))[(IntKind.wrap .i64 (v44 - 1) : Int).toNat]?).bind fun e53 => rec (v43, IntKind.wrap .i64 (v44 - 1), ((o45).set ((v44 : Int).toNat) (Ev.Cnt.mk e50.r e50.n)).set ((IntKind.wrap .i64 (v44 - 1) : Int).toNat) (Ev.Cnt.mk e51.r e51.n), ())
  else kx (o45, ()))

/-- a round of a loop of slices.symMergeCmpFunc api.Count  -/
noncomputable def slices_symMergeCF_C_bag_Gather_1_s8 {ρ : Type} (self_slices_symMergeCF_C_bag_Gather_1 : Int × Int × Int × (List Ev.Cnt) × Unit → Option ((List Ev.Cnt) × Unit)) (n : Nat) (rec : Int × Int × Int × Int × Int × Int × Int × Int × (List Ev.Cnt) × Unit → Option ρ) (kx : Int × Int × Int × Int × Int × Int × (List Ev.Cnt) × Unit → Option ρ) (kr : Unit → Option ρ) : Int × Int × Int × Int × Int × Int × Int × Int × (List Ev.Cnt) × Unit → Option ρ :=
  fun (v57, v58, v59, v60, v61, v62, v63, v64, o65, _) => 
  (bif decide ((v62 : Int) < v63) then 
  (ix o65 (IntKind.wrap .i64 (v64 - (IntKind.wrap .i64 (bshr .u64 (IntKind.wrap .u64 (IntKind.wrap .i64 (v62 + v63))) 1))))).bind fun _ => 
  ((o65)[(IntKind.wrap .i64 (v64 - (IntKind.wrap .i64 (bshr .u64 (IntKind.wrap .u64 (IntKind.wrap .i64 (v62 + v63))) 1))) : Int).toNat]?).bind fun e68 => 
  (ix o65 (IntKind.wrap .i64 (bshr .u64 (IntKind.wrap .u64 (IntKind.wrap .i64 (v62 + v63))) 1))).bind fun _ => 
  ((o65)[(IntKind.wrap .i64 (bshr .u64 (IntKind.wrap .u64 (IntKind.wrap .i64 (v62 + v63))) 1) : Int).toNat]?).bind fun e69 => 
  (bag_Gather_1 n ((Ev.Cnt.mk e68.r e68.n), (Ev.Cnt.mk e69.r e69.n), ())).bind fun (y70, _) => 
  (bif !(decide ((y70 : Int) < 0)) then rec (v57, v58, v59, v60, v61, IntKind.wrap .i64 ((IntKind.wrap .i64 (bshr .u64 (IntKind.wrap .u64 (IntKind.wrap .i64 (v62 + v63))) 1)) + 1), v63, v64, o65, ())
  else rec (v57, v58, v59, v60, v61, v62, IntKind.wrap .i64 (bshr .u64 (IntKind.wrap .u64 (IntKind.wrap .i64 (v62 + v63))) 1), v64, o65, ()))
  else kx (v57, v58, v59, v60, v61, v62, o65, ()))

/-- slices.symMergeCmpFunc api.Count  -/
noncomputable def slices_symMergeCF_C_bag_Gather_1_b (self_slices_symMergeCF_C_bag_Gather_1 : Int × Int × Int × (List Ev.Cnt) × Unit → Option ((List Ev.Cnt) × Unit)) (n : Nat) : Int × Int × Int × (List Ev.Cnt) × Unit → Option ((List Ev.Cnt) × Unit) :=
  fun (a1, a2, a3, o4, _) => 
  (bif (IntKind.wrap .i64 (a2 - a1) : Int) == 1 then 
  iterN (fun rc30 => slices_symMergeCF_C_bag_Gather_1_s0 self_slices_symMergeCF_C_bag_Gather_1 n rc30 (fun (v14, v15, o16, _) => 
  iterN (fun rc29 => slices_symMergeCF_C_bag_Gather_1_s2 self_slices_symMergeCF_C_bag_Gather_1 n rc29 (fun (o28, _) => some (o28, ())) (fun (_) => none)) (n) (v15, v14, o16, ())) (fun (_) => none)) (n) (a1, a2, a3, o4, ())
  else 
  (bif (IntKind.wrap .i64 (a3 - a2) : Int) == 1 then 
  iterN (fun rc56 => slices_symMergeCF_C_bag_Gather_1_s4 self_slices_symMergeCF_C_bag_Gather_1 n rc56 (fun (v40, v41, o42, _) => 
  iterN (fun rc55 => slices_symMergeCF_C_bag_Gather_1_s6 self_slices_symMergeCF_C_bag_Gather_1 n rc55 (fun (o54, _) => some (o54, ())) (fun (_) => none)) (n) (v41, v40, o42, ())) (fun (_) => none)) (n) (a2, a1, a2, o4, ())
  else 
  (bif decide ((a2 : Int) > (IntKind.wrap .i64 (bshr .u64 (IntKind.wrap .u64 (IntKind.wrap .i64 (a1 + a3))) 1))) then 
  iterN (fun rc85 => slices_symMergeCF_C_bag_Gather_1_s8 self_slices_symMergeCF_C_bag_Gather_1 n rc85 (fun (v71, v72, v73, v74, v75, v76, o77, _) => 
  (bif (decide ((v76 : Int) < v72)) && (decide ((v72 : Int) < (IntKind.wrap .i64 (v75 - v76)))) then 
  (slices_rotateCF_C_bag_Gather_1 n (v76, v72, IntKind.wrap .i64 (v75 - v76), o77, ())).bind fun (o78, _) => 
  (bif (decide ((v71 : Int) < v76)) && (decide ((v76 : Int) < v74)) then 
  (self_slices_symMergeCF_C_bag_Gather_1 (v71, v76, v74, o78, ())).bind fun (o79, _) => 
  (bif (decide ((v74 : Int) < (IntKind.wrap .i64 (v75 - v76)))) && (decide ((IntKind.wrap .i64 (v75 - v76) : Int) < v73)) then 
  (self_slices_symMergeCF_C_bag_Gather_1 (v74, IntKind.wrap .i64 (v75 - v76), v73, o79, ())).bind fun (o80, _) => some (o80, ())
  else some (o79, ()))
  else 
  (bif (decide ((v74 : Int) < (IntKind.wrap .i64 (v75 - v76)))) && (decide ((IntKind.wrap .i64 (v75 - v76) : Int) < v73)) then 
  (self_slices_symMergeCF_C_bag_Gather_1 (v74, IntKind.wrap .i64 (v75 - v76), v73, o78, ())).bind fun (o81, _) => some (o81, ())
  else some (o78, ())))
  else 
  (bif (decide ((v71 : Int) < v76)) && (decide ((v76 : Int) < v74)) then 
  (self_slices_symMergeCF_C_bag_Gather_1 (v71, v76, v74, o77, ())).bind fun (o82, _) => 
  (bif (decide ((v74 : Int) < (IntKind.wrap .i64 (v75 - v76)))) && (decide ((IntKind.wrap .i64 (v75 - v76) : Int) < v73)) then 
  (self_slices_symMergeCF_C_bag_Gather_1 (v74, IntKind.wrap .i64 (v75 - v76), v73, o82, ())).bind fun (o83, _) => some (o83, ())
  else some (o82, ()))
  else 
  (bif (decide ((v74 : Int) < (IntKind.wrap .i64 (v75 - v76)))) && (decide ((IntKind.wrap .i64 (v75 - v76) : Int) < v73)) then 
  (self_slices_symMergeCF_C_bag_Gather_1 (v74, IntKind.wrap .i64 (v75 - v76), v73, o77, ())).bind fun (o84, _) => some (o84, ())
  else some (o77, ()))))) (fun (_) => none)) (n) (a1, a2, a3, IntKind.wrap .i64 (bshr .u64 (IntKind.wrap .u64 (IntKind.wrap .i64 (a1 + a3))) 1), IntKind.wrap .i64 ((IntKind.wrap .i64 (bshr .u64 (IntKind.wrap .u64 (IntKind.wrap .i64 (a1 + a3))) 1)) + a2), IntKind.wrap .i64 ((IntKind.wrap .i64 ((IntKind.wrap .i64 (bshr .u64 (IntKind.wrap .u64 (IntKind.wrap .i64 (a1 + a3))) 1)) + a2)) - a3), IntKind.wrap .i64 (bshr .u64 (IntKind.wrap .u64 (IntKind.wrap .i64 (a1 + a3))) 1), IntKind.wrap .i64 ((IntKind.wrap .i64 ((IntKind.wrap .i64 (bshr .u64 (IntKind.wrap .u64 (IntKind.wrap .i64 (a1 + a3))) 1)) + a2)) - 1), o4, ())
  else 
  iterN (fun rc100 => slices_symMergeCF_C_bag_Gather_1_s8 self_slices_symMergeCF_C_bag_Gather_1 n rc100 (fun (v86, v87, v88, v89, v90, v91, o92, _) => 
  (bif (decide ((v91 : Int) < v87)) && (decide ((v87 : Int) < (IntKind.wrap .i64 (v90 - v91)))) then 
  (slices_rotateCF_C_bag_Gather_1 n (v91, v87, IntKind.wrap .i64 (v90 - v91), o92, ())).bind fun (o93, _) => 
  (bif (decide ((v86 : Int) < v91)) && (decide ((v91 : Int) < v89)) then 
  (self_slices_symMergeCF_C_bag_Gather_1 (v86, v91, v89, o93, ())).bind fun (o94, _) => 
  (bif (decide ((v89 : Int) < (IntKind.wrap .i64 (v90 - v91)))) && (decide ((IntKind.wrap .i64 (v90 - v91) : Int) < v88)) then 
  (self_slices_symMergeCF_C_bag_Gather_1 (v89, IntKind.wrap .i64 (v90 - v91), v88, o94, ())).bind fun (o95, _) => some (o95, ())
  else some (o94, ()))
  else 
  (bif (decide ((v89 : Int) < (IntKind.wrap .i64 (v90 - v91)))) && (decide ((IntKind.wrap .i64 (v90 - v91) : Int) < v88)) then 
  (self_slices_symMergeCF_C_bag_Gather_1 (v89, IntKind.wrap .i64 (v90 - v91), v88, o93, ())).bind fun (o96, _) => some (o96, ())
  else some (o93, ())))
  else 
  (bif (decide ((v86 : Int) < v91)) && (decide ((v91 : Int) < v89)) then 
  (self_slices_symMergeCF_C_bag_Gather_1 (v86, v91, v89, o92, ())).bind fun (o97, _) => 
  (bif (decide ((v89 : Int) < (IntKind.wrap .i64 (v90 - v91)))) && (decide ((IntKind.wrap .i64 (v90 - v91) : Int) < v88)) then 
  (self_slices_symMergeCF_C_bag_Gather_1 (v89, IntKind.wrap .i64 (v90 - v91), v88, o97, ())).bind fun (o98, _) => some (o98, ())
  else some (o97, ()))
  else 
  (bif (decide ((v89 : Int) < (IntKind.wrap .i64 (v90 - v91)))) && (decide ((IntKind.wrap .i64 (v90 - v91) : Int) < v88)) then 
  (self_slices_symMergeCF_C_bag_Gather_1 (v89, IntKind.wrap .i64 (v90 - v91), v88, o92, ())).bind fun (o99, _) => some (o99, ())
  else some (o92, ()))))) (fun (_) => none)) (n) (a1, a2, a3, IntKind.wrap .i64 (bshr .u64 (IntKind.wrap .u64 (IntKind.wrap .i64 (a1 + a3))) 1), IntKind.wrap .i64 ((IntKind.wrap .i64 (bshr .u64 (IntKind.wrap .u64 (IntKind.wrap .i64 (a1 + a3))) 1)) + a2), a1, a2, IntKind.wrap .i64 ((IntKind.wrap .i64 ((IntKind.wrap .i64 (bshr .u64 (IntKind.wrap .u64 (IntKind.wrap .i64 (a1 + a3))) 1)) + a2)) - 1), o4, ()))))

noncomputable def slices_symMergeCF_C_bag_Gather_1 : Nat → Int × Int × Int × (List Ev.Cnt) × Unit → Option ((List Ev.Cnt) × Unit)
  | 0, _ => none
  | n + 1, x => slices_symMergeCF_C_bag_Gather_1_b (slices_symMergeCF_C_bag_Gather_1 n) n x

/-- a round of a loop of slices.stableCmpFunc api.Count  -/
noncomputable def slices_stableCF_C_bag_Gather_1_s0 {ρ : Type} (n : Nat) (rec : Int × Int × Int × Int × (List Ev.Cnt) × Unit → Option ρ) (kx : Int × Int × Int × (List Ev.Cnt) × Unit → Option ρ) (kr : Unit → Option ρ) : Int × Int × Int × Int × (List Ev.Cnt) × Unit → Option ρ :=
  fun (v3, v4, v5, v6, o7, _) => 
  (bif decide ((v6 : Int) ≤ v3) then 
  (slices_insertionSortCF_C_bag_Gather_1 n (v5, v6, o7, ())).bind fun (o8, _) => rec (v3, v4, v6, IntKind.wrap .i64 (v6 + v4), o8, ())
  else kx (v3, v4, v5, o7, ()))

/-- a round of a loop of slices.stableCmpFunc api.Count  -/
noncomputable def slices_stableCF_C_bag_Gather_1_s4 {ρ : Type} (n : Nat) (rec : Int × Int × Int × Int × (List Ev.Cnt) × Unit → Option ρ) (kx : Int × Int × Int × (List Ev.Cnt) × Unit → Option ρ) (kr : Unit → Option ρ) : Int × Int × Int × Int × (List Ev.Cnt) × Unit → Option ρ :=
  fun (v17, v18, v19, v20, o21, _) => 
  (bif decide ((v20 : Int) ≤ v17) then 
  (slices_symMergeCF_C_bag_Gather_1 n (v19, IntKind.wrap .i64 (v19 + v18), v20, o21, ())).bind fun (o22, _) => rec (v17, v18, v20, IntKind.wrap .i64 (v20 + (IntKind.wrap .i64 (2 * v18))), o22, ())
  else kx (v17, v18, v19, o21, ()))

/-- a round of a loop of slices.stableCmpFunc api.Count  -/
noncomputable def slices_stableCF_C_bag_Gather_1_s2 {ρ : Type} (n : Nat) (rec : Int × Int × (List Ev.Cnt) × Unit → Option ρ) (kx : (List Ev.Cnt) × Unit → Option ρ) (kr : Unit → Option ρ) : Int × Int × (List Ev.Cnt) × Unit → Option ρ :=
  fun (v14, v15, o16, _) => 
  (bif decide ((v15 : Int) < v14) then 
  iterN (fun rc28 => slices_stableCF_C_bag_Gather_1_s4 n rc28 (fun (v23, v24, v25, o26, _) => 
  (bif decide ((IntKind.wrap .i64 (v25 + v24) : Int) < v23) then 
  (slices_symMergeCF_C_bag_Gather_1 n (v25, IntKind.wrap .i64 (v25 + v24), v23, o26, ())).bind fun (o27, _) => rec (v23, IntKind.wrap .i64 (v24 * 2), o27, ())
  else rec (v23, IntKind.wrap .i64 (v24 * 2), o26, ()))) (fun (_) => none)) (n) (v14, v15, 0, IntKind.wrap .i64 (2 * v15), o16, ())
  else kx (o16, ()))

/-- slices.stableCmpFunc api.Count  -/
noncomputable def slices_stableCF_C_bag_Gather_1 (n : Nat) : Int × (List Ev.Cnt) × Unit → Option ((List Ev.Cnt) × Unit) :=
  fun (a1, o2, _) => 
  iterN (fun rc31 => slices_stableCF_C_bag_Gather_1_s0 n rc31 (fun (v9, v10, v11, o12, _) => 
  (slices_insertionSortCF_C_bag_Gather_1 n (v11, v9, o12, ())).bind fun (o13, _) => 
  iterN (fun rc30 => slices_stableCF_C_bag_Gather_1_s2 n rc30 (fun (o29, _) => some (o29, ())) (fun (_) => none)) (n) (v9, v10, o13, ())) (fun (_) => none)) (n) (a1, 20, 0, 20, o2, ())

/-- slices.SortStableFunc   api.Count,api.Count  -/
noncomputable def slices_SortStableFunc_C_C_bag_Gather_1 (n : Nat) : (List Ev.Cnt) × Unit → Option ((List Ev.Cnt) × Unit) :=
  fun (o1, _) => 
  (slices_stableCF_C_bag_Gather_1 n ((o1.length : Int), o1, ())).bind fun (o2, _) => some (o2, ())

/-- bag.Gather$2 -/
noncomputable def bag_Gather_2 : Ev.Cnt × Unit → Option (Bool × Unit) :=
  fun (a1, _) => some ((a1.n : Int) == 0, ())

/-- a round of a loop of slices.IndexFunc api.Bag,api.Count  -/
noncomputable def slices_IndexFunc_api_Bag_C_bag_Gather_2_s0 {ρ : Type} (n : Nat) (rec : (List Ev.Cnt) × Int × Int × Unit → Option ρ) (kx : Unit → Option ρ) (kr : Int × Unit → Option ρ) : (List Ev.Cnt) × Int × Int × Unit → Option ρ :=
  fun (v2, v3, v4, _) => 
  (bif decide ((v4 : Int) < v3) then 
  (ix v2 v4).bind fun x5 => 
  (bag_Gather_2 ((Ev.Cnt.mk x5.r x5.n), ())).bind fun (y6, _) => 
  (bif y6 then kr (v4, ())
  else rec (v2, v3, IntKind.wrap .i64 (v4 + 1), ()))
  else kx (()))

noncomputable def F_slices_IndexFunc_api_Bag_C_bag_Gather_2_s0 {ρ : Type} (n : Nat) (kr : Int × Unit → Option ρ) : Int → Ev.Cnt → Unit → (Unit → Option ρ) → Option ρ :=
  fun v4 x5 (_) rec =>  
  (bag_Gather_2 ((Ev.Cnt.mk x5.r x5.n), ())).bind fun (y6, _) => 
  (bif y6 then kr (v4, ())
  else rec (()))

theorem R_slices_IndexFunc_api_Bag_C_bag_Gather_2_s0 {ρ : Type} (n : Nat) (kx : Unit → Option ρ) (kr : Int × Unit → Option ρ) (l : List Ev.Cnt) (fuel : Nat) (hl : l.length ≤ 9223372036854775807) (hf : l.length < fuel) :
    iterN (fun rc => slices_IndexFunc_api_Bag_C_bag_Gather_2_s0 n rc kx kr) fuel (l, (l.length : Int), 0, ()) = foldK (F_slices_IndexFunc_api_Bag_C_bag_Gather_2_s0 n kr) (fun (_) => kx (())) 0 l (()) :=
  range_listM l (fun i (_) => (l, (l.length : Int), i, ())) _ _ _ (fun rec i s => rfl) hl fuel (()) hf

/-- slices.IndexFunc api.Bag,api.Count  -/
noncomputable def slices_IndexFunc_api_Bag_C_bag_Gather_2 (n : Nat) : (List Ev.Cnt) × Unit → Option (Int × Unit) :=
  fun (a1, _) => 
  iterN (fun rc8 => slices_IndexFunc_api_Bag_C_bag_Gather_2_s0 n rc8 (fun (_) => some ((-1), ())) (fun (v7, _) => some (v7, ()))) (n) (a1, (a1.length : Int), 0, ())

/-- a round of a loop of slices.DeleteFunc api.Bag,api.Count  -/
noncomputable def slices_DeleteFunc_api_Bag_C_bag_Gather_2_s0 {ρ : Type} (n : Nat) (rec : Int × Int × (List Ev.Cnt) × Unit → Option ρ) (kx : Int × (List Ev.Cnt) × Unit → Option ρ) (kr : Unit → Option ρ) : Int × Int × (List Ev.Cnt) × Unit → Option ρ :=
  fun (v3, v4, o5, _) => 
  (bif decide ((v4 : Int) < (o5.length : Int)) then 
  (ix o5 v4).bind fun _ => 
  ((o5)[(v4 : Int).toNat]?).bind fun e6 => 
  (bag_Gather_2 ((Ev.Cnt.mk e6.r e6.n), ())).bind fun (y7, _) => 
  (bif !y7 then 
  (ix o5 v3).bind fun _ => 
  ((o5)[(v3 : Int).toNat]?).bind fun e8 => rec (IntKind.wrap .i64 (v3 + 1), IntKind.wrap .i64 (v4 + 1), (o5).set ((v3 : Int).toNat) (Ev.Cnt.mk e6.r e6.n), ())
  else rec (v3, IntKind.wrap .i64 (v4 + 1), o5, ()))
  else kx (v3, o5, ()))

/-- slices.DeleteFunc api.Bag,api.Count  -/
noncomputable def slices_DeleteFunc_api_Bag_C_bag_Gather_2 (n : Nat) : (List Ev.Cnt) × Unit → Option ((List Ev.Cnt) × Unit) :=
  fun (o1, _) => 
  (slices_IndexFunc_api_Bag_C_bag_Gather_2 n (o1, ())).bind fun (y2, _) => 
  (bif (y2 : Int) == (-1) then some (o1, ())
  else 
  iterN (fun rc12 => slices_DeleteFunc_api_Bag_C_bag_Gather_2_s0 n rc12 (fun (v9, o10, _) => 
  ck (decide (0 ≤ (v9 : Int) ∧ (v9 : Int) ≤ ((o10).length : Int))) (
  ck (Nat.ble ((v9 : Int).toNat + ((o10).length - (v9 : Int).toNat)) (o10).length) (
  (cut? (clrL o10 ((v9 : Int).toNat) ((o10).length - (v9 : Int).toNat) (Ev.Cnt.mk ([] : List Ev.Val) 0)) v9).bind fun r11 => some (r11, ())))) (fun (_) => none)) (n) (y2, IntKind.wrap .i64 (y2 + 1), o1, ()))

/-- a round of a loop of bag.Gather -/
noncomputable def bag_Gather_s0 {ρ : Type} (n : Nat) (rec : (List Ev.Cnt) × Int × Int × (List Ev.Cnt) × Unit → Option ρ) (kx : (List Ev.Cnt) × Unit → Option ρ) (kr : Unit → Option ρ) : (List Ev.Cnt) × Int × Int × (List Ev.Cnt) × Unit → Option ρ :=
  fun (v4, v5, v6, o7, _) => 
  (bif decide ((v6 : Int) < v5) then 
  (ix v4 v6).bind fun x8 => 
  (bif decide ((IntKind.wrap .i64 ((o7.length : Int) - 1) : Int) ≥ 0) then 
  (ix o7 (IntKind.wrap .i64 ((o7.length : Int) - 1))).bind fun _ => 
  ((o7)[(IntKind.wrap .i64 ((o7.length : Int) - 1) : Int).toNat]?).bind fun e9 => 
  (bag_Compare n (e9.r, x8.r, ())).bind fun (y10, _) => 
  (bif (y10 : Int) == 0 then 
  (ix o7 (IntKind.wrap .i64 ((o7.length : Int) - 1))).bind fun _ => 
  ((o7)[(IntKind.wrap .i64 ((o7.length : Int) - 1) : Int).toNat]?).bind fun e13 => 
  (ix o7 (IntKind.wrap .i64 ((o7.length : Int) - 1))).bind fun _ => 
  ((o7)[(IntKind.wrap .i64 ((o7.length : Int) - 1) : Int).toNat]?).bind fun e14 => rec (v4, v5, IntKind.wrap .i64 (v6 + 1), (o7).set ((IntKind.wrap .i64 ((o7.length : Int) - 1) : Int).toNat) (Ev.Cnt.mk e14.r (IntKind.wrap .i64 (e13.n + x8.n))), ())
  else 
  (bag_CopyRow n (x8.r, ())).bind fun (y15, _) => 
  ck (room (o7 ++ ([(Ev.Cnt.mk y15 x8.n)] : List Ev.Cnt)).length 32) (rec (v4, v5, IntKind.wrap .i64 (v6 + 1), o7 ++ ([(Ev.Cnt.mk y15 x8.n)] : List Ev.Cnt), ())))
  else 
  (bag_CopyRow n (x8.r, ())).bind fun (y16, _) => 
  ck (room (o7 ++ ([(Ev.Cnt.mk y16 x8.n)] : List Ev.Cnt)).length 32) (rec (v4, v5, IntKind.wrap .i64 (v6 + 1), o7 ++ ([(Ev.Cnt.mk y16 x8.n)] : List Ev.Cnt), ())))
  else kx (o7, ()))

noncomputable def F_bag_Gather_s0 {ρ : Type} (n : Nat) (kr : Unit → Option ρ) : Int → Ev.Cnt → ((List Ev.Cnt) × Unit) → (((List Ev.Cnt) × Unit) → Option ρ) → Option ρ :=
  fun v6 x8 (o7, _) rec =>  
  (bif decide ((IntKind.wrap .i64 ((o7.length : Int) - 1) : Int) ≥ 0) then 
  (ix o7 (IntKind.wrap .i64 ((o7.length : Int) - 1))).bind fun _ => 
  ((o7)[(IntKind.wrap .i64 ((o7.length : Int) - 1) : Int).toNat]?).bind fun e9 => 
  (bag_Compare n (e9.r, x8.r, ())).bind fun (y10, _) => 
  (bif (y10 : Int) == 0 then 
  (ix o7 (IntKind.wrap .i64 ((o7.length : Int) - 1))).bind fun _ => 
  ((o7)[(IntKind.wrap .i64 ((o7.length : Int) - 1) : Int).toNat]?).bind fun e13 => 
  (ix o7 (IntKind.wrap .i64 ((o7.length : Int) - 1))).bind fun _ => 
  ((o7)[(IntKind.wrap .i64 ((o7.length : Int) - 1) : Int).toNat]?).bind fun e14 => rec ((o7).set ((IntKind.wrap .i64 ((o7.length : Int) - 1) : Int).toNat) (Ev.Cnt.mk e14.r (IntKind.wrap .i64 (e13.n + x8.n))), ())
  else 
  (bag_CopyRow n (x8.r, ())).bind fun (y15, _) => 
  ck (room (o7 ++ ([(Ev.Cnt.mk y15 x8.n)] : List Ev.Cnt)).length 32) (rec (o7 ++ ([(Ev.Cnt.mk y15 x8.n)] : List Ev.Cnt), ())))
  else 
  (bag_CopyRow n (x8.r, ())).bind fun (y16, _) => 
  ck (room (o7 ++ ([(Ev.Cnt.mk y16 x8.n)] : List Ev.Cnt)).length 32) (rec (o7 ++ ([(Ev.Cnt.mk y16 x8.n)] : List Ev.Cnt), ())))

theorem R_bag_Gather_s0 {ρ : Type} (n : Nat) (kx : (List Ev.Cnt) × Unit → Option ρ) (kr : Unit → Option ρ) (l : List Ev.Cnt) (fuel : Nat) (o7 : List Ev.Cnt) (hl : l.length ≤ 9223372036854775807) (hf : l.length < fuel) :
    iterN (fun rc => bag_Gather_s0 n rc kx kr) fuel (l, (l.length : Int), 0, o7, ()) = foldK (F_bag_Gather_s0 n kr) (fun (o7, _) => kx (o7, ())) 0 l (o7, ()) :=
  range_listM l (fun i (o7, _) => (l, (l.length : Int), i, o7, ())) _ _ _ (fun rec i s => rfl) hl fuel (o7, ()) hf

/-- bag.Gather -/
noncomputable def bag_Gather (n : Nat) : (List Ev.Cnt) × Unit → Option ((List Ev.Cnt) × Unit) :=
  fun (a1, _) => 
  (slices_Clone_C_C_own (a1, ())).bind fun (o2, _) => 
  (slices_SortStableFunc_C_C_bag_Gather_1 n (o2, ())).bind fun (o3, _) => 
  iterN (fun rc19 => bag_Gather_s0 n rc19 (fun (o17, _) => 
  (slices_DeleteFunc_api_Bag_C_bag_Gather_2 n (o17, ())).bind fun (o18, _) => some (o18, ())) (fun (_) => none)) (n) (o3, (o3.length : Int), 0, ([] : List Ev.Cnt), ())

/-- a round of a loop of guest.Take -/
noncomputable def guest_Take_s0 {ρ : Type} (n : Nat) (rec : (List (List Ev.Cnt)) × Int × Int × (Ev.Guest × Unit) × (List Ev.Cnt) × Unit → Option ρ) (kx : (Ev.Guest × Unit) × (List Ev.Cnt) × Unit → Option ρ) (kr : Unit → Option ρ) : (List (List Ev.Cnt)) × Int × Int × (Ev.Guest × Unit) × (List Ev.Cnt) × Unit → Option ρ :=
  fun (v7, v8, v9, o10, o11, _) => 
  (bif decide ((v9 : Int) < v8) then 
  (ix v7 v9).bind fun x12 => 
  ck (room (o11 ++ x12).length 32) (rec (v7, v8, IntKind.wrap .i64 (v9 + 1), ((Ev.Guest.mk o10.1.view o10.1.queue o10.1.fresh o10.1.at_), ()), o11 ++ x12, ()))
  else kx (((Ev.Guest.mk o10.1.view o10.1.queue o10.1.fresh o10.1.at_), ()), o11, ()))

noncomputable def F_guest_Take_s0 {ρ : Type} (n : Nat) (kr : Unit → Option ρ) : Int → ((List Ev.Cnt)) → ((Ev.Guest × Unit) × (List Ev.Cnt) × Unit) → (((Ev.Guest × Unit) × (List Ev.Cnt) × Unit) → Option ρ) → Option ρ :=
  fun v9 x12 (o10, o11, _) rec =>  
  ck (room (o11 ++ x12).length 32) (rec (((Ev.Guest.mk o10.1.view o10.1.queue o10.1.fresh o10.1.at_), ()), o11 ++ x12, ()))

theorem R_guest_Take_s0 {ρ : Type} (n : Nat) (kx : (Ev.Guest × Unit) × (List Ev.Cnt) × Unit → Option ρ) (kr : Unit → Option ρ) (l : List (List Ev.Cnt)) (fuel : Nat) (o10 : Ev.Guest × Unit) (o11 : List Ev.Cnt) (hl : l.length ≤ 9223372036854775807) (hf : l.length < fuel) :
    iterN (fun rc => guest_Take_s0 n rc kx kr) fuel (l, (l.length : Int), 0, o10, o11, ()) = foldK (F_guest_Take_s0 n kr) (fun (o10, o11, _) => kx (((Ev.Guest.mk o10.1.view o10.1.queue o10.1.fresh o10.1.at_), ()), o11, ())) 0 l (o10, o11, ()) :=
  range_listM l (fun i (o10, o11, _) => (l, (l.length : Int), i, o10, o11, ())) _ _ _ (fun rec i s => rfl) hl fuel (o10, o11, ()) hf

/-- guest.Take -/
noncomputable def guest_Take (n : Nat) : Ev.Guest × (List Ev.Cnt) × Int × Unit → Option (Ev.Guest × (List Ev.Cnt) × Bool × Int × Unit) :=
  fun (a1, a2, a3, _) => 
  (guest_Check n ((Ev.Guest.mk a1.view a1.queue a1.fresh a1.at_), ())).bind fun (y4, _) => 
  (bif (y4 : Int) != 0 then some ((Ev.Guest.mk 0 ([] : List (List Ev.Cnt)) false 0), ([] : List Ev.Cnt), false, y4, ())
  else 
  (bag_Check n (a2, ())).bind fun (y5, _) => 
  (bif (y5 : Int) != 0 then some ((Ev.Guest.mk 0 ([] : List (List Ev.Cnt)) false 0), ([] : List Ev.Cnt), false, y5, ())
  else 
  (bif decide ((a3 : Int) < a1.at_) then some ((Ev.Guest.mk 0 ([] : List (List Ev.Cnt)) false 0), ([] : List Ev.Cnt), false, 9, ())
  else 
  (bif a1.fresh then 
  (guest_own n (a2, ())).bind fun (y6, _) => some ((Ev.Guest.mk a1.view ([] : List (List Ev.Cnt)) false a3), y6, true, 0, ())
  else 
  iterN (fun rc18 => guest_Take_s0 n rc18 (fun (o13, o14, _) => 
  (slices_Clone_C_C (o14, ())).bind fun (y15, _) => 
  (bag_Gather n (y15, ())).bind fun (y16, _) => 
  (bag_Check n (y16, ())).bind fun (y17, _) => 
  (bif (y17 : Int) != 0 then some ((Ev.Guest.mk 0 ([] : List (List Ev.Cnt)) false 0), ([] : List Ev.Cnt), false, y17, ())
  else some ((Ev.Guest.mk o13.1.view o13.1.queue o13.1.fresh o13.1.at_), y16, false, 0, ()))) (fun (_) => none)) (n) (a1.queue, (a1.queue.length : Int), 0, ((Ev.Guest.mk a1.view ([] : List (List Ev.Cnt)) false a3), ()), ([] : List Ev.Cnt), ())))))

/-- a round of a loop of espalierref.CheckValue -/
noncomputable def eR_CheckValue_s1 {ρ : Type} (self_eR_CheckValue : Ev.Val × Int × Unit → Option (Int × Unit)) (n : Nat) (rec : Int × Bool × Bool × (List Ev.Val) × Int × Int × Unit → Option ρ) (kx : Bool × Bool × Unit → Option ρ) (kr : Int × Unit → Option ρ) : Int × Bool × Bool × (List Ev.Val) × Int × Int × Unit → Option ρ :=
  fun (v3, v4, v5, v6, v7, v8, _) => 
  (bif decide ((v8 : Int) < v7) then 
  (ix v6 v8).bind fun x9 => 
  (self_eR_CheckValue ((Ev.Val.mk x9.kind x9.n x9.s x9.l), IntKind.wrap .i64 (v3 + 1), ())).bind fun (y10, _) => 
  (bif (y10 : Int) != 0 then kr (y10, ())
  else rec (v3, v4, v5, v6, v7, IntKind.wrap .i64 (v8 + 1), ()))
  else kx (v4, v5, ()))

noncomputable def F_eR_CheckValue_s1 {ρ : Type} (self_eR_CheckValue : Ev.Val × Int × Unit → Option (Int × Unit)) (n : Nat) (kr : Int × Unit → Option ρ) : Int → Ev.Val → (Int × Bool × Bool × Unit) → ((Int × Bool × Bool × Unit) → Option ρ) → Option ρ :=
  fun v8 x9 (v3, v4, v5, _) rec =>  
  (self_eR_CheckValue ((Ev.Val.mk x9.kind x9.n x9.s x9.l), IntKind.wrap .i64 (v3 + 1), ())).bind fun (y10, _) => 
  (bif (y10 : Int) != 0 then kr (y10, ())
  else rec (v3, v4, v5, ()))

theorem R_eR_CheckValue_s1 {ρ : Type} (self_eR_CheckValue : Ev.Val × Int × Unit → Option (Int × Unit)) (n : Nat) (kx : Bool × Bool × Unit → Option ρ) (kr : Int × Unit → Option ρ) (l : List Ev.Val) (fuel : Nat) (v3 : Int) (v4 : Bool) (v5 : Bool) (hl : l.length ≤ 9223372036854775807) (hf : l.length < fuel) :
    iterN (fun rc => eR_CheckValue_s1 self_eR_CheckValue n rc kx kr) fuel (v3, v4, v5, l, (l.length : Int), 0, ()) = foldK (F_eR_CheckValue_s1 self_eR_CheckValue n kr) (fun (v3, v4, v5, _) => kx (v4, v5, ())) 0 l (v3, v4, v5, ()) :=
  range_listM l (fun i (v3, v4, v5, _) => (v3, v4, v5, l, (l.length : Int), i, ())) _ _ _ (fun rec i s => rfl) hl fuel (v3, v4, v5, ()) hf

/-- espalierref.CheckValue -/
noncomputable def eR_CheckValue_b (self_eR_CheckValue : Ev.Val × Int × Unit → Option (Int × Unit)) (n : Nat) : Ev.Val × Int × Unit → Option (Int × Unit) :=
  fun (a1, a2, _) => 
  (bif (a1.kind : Int) == 4 then 
  (bif (decide (((a1.l.length : Int) : Int) > 30)) || (decide ((a2 : Int) > 6)) then some (2, ())
  else 
  iterN (fun rc14 => eR_CheckValue_s1 self_eR_CheckValue n rc14 (fun (v11, v12, _) => 
  (bif v11 && v12 then some (0, ())
  else some (6, ()))) (fun (v13, _) => some (v13, ()))) (n) (a2, (a1.n : Int) == 0, seq a1.s (⟨#[]⟩ : ByteArray), a1.l, (a1.l.length : Int), 0, ()))
  else 
  (bif (a1.kind : Int) == 3 then 
  (bif decide (((a1.s.size : Int) : Int) > 4000) then some (2, ())
  else 
  (bif ((a1.n : Int) == 0) && (((a1.l.length : Int) : Int) == 0) then 
  (validN (a1.s, ())).bind fun (y15, _) => 
  (bif y15 then some (0, ())
  else some (6, ()))
  else some (6, ())))
  else 
  (bif (a1.kind : Int) == 0 then 
  (bif (((a1.n : Int) == 0) && (seq a1.s (⟨#[]⟩ : ByteArray))) && (((a1.l.length : Int) : Int) == 0) then some (0, ())
  else some (6, ()))
  else 
  (bif (a1.kind : Int) == 1 then 
  (bif ((((a1.n : Int) == 0) || ((a1.n : Int) == 1)) && (seq a1.s (⟨#[]⟩ : ByteArray))) && (((a1.l.length : Int) : Int) == 0) then some (0, ())
  else some (6, ()))
  else 
  (bif (a1.kind : Int) == 2 then 
  (bif (seq a1.s (⟨#[]⟩ : ByteArray)) && (((a1.l.length : Int) : Int) == 0) then some (0, ())
  else some (6, ()))
  else some (6, ()))))))

noncomputable def eR_CheckValue : Nat → Ev.Val × Int × Unit → Option (Int × Unit)
  | 0, _ => none
  | n + 1, x => eR_CheckValue_b (eR_CheckValue n) n x

/-- bytes.Compare -/
noncomputable def bytes_Compare : (List Int) × (List Int) × Unit → Option (Int × Unit) :=
  fun (a1, a2, _) => 
  (cmpN (a1, a2, ())).bind fun (y3, _) => some (y3, ())

/-- a round of a loop of espalierref.OrderOf -/
noncomputable def eR_OrderOf_s1 {ρ : Type} (self_eR_OrderOf : Ev.Val × Ev.Val × Unit → Option (Int × Unit)) (n : Nat) (rec : Int × (Ev.Val × Unit) × (Ev.Val × Unit) × Unit → Option ρ) (kx : (Ev.Val × Unit) × (Ev.Val × Unit) × Unit → Option ρ) (kr : Int × Unit → Option ρ) : Int × (Ev.Val × Unit) × (Ev.Val × Unit) × Unit → Option ρ :=
  fun (v4, o5, o6, _) => 
  (bif (decide ((v4 : Int) < (o5.1.l.length : Int))) && (decide ((v4 : Int) < (o6.1.l.length : Int))) then 
  (ix o5.1.l v4).bind fun x9 => 
  (ix o6.1.l v4).bind fun x10 => 
  (self_eR_OrderOf ((Ev.Val.mk x9.kind x9.n x9.s x9.l), (Ev.Val.mk x10.kind x10.n x10.s x10.l), ())).bind fun (y11, _) => 
  (bif (y11 : Int) != 0 then kr (y11, ())
  else rec (IntKind.wrap .i64 (v4 + 1), ((Ev.Val.mk o5.1.kind o5.1.n o5.1.s o5.1.l), ()), ((Ev.Val.mk o6.1.kind o6.1.n o6.1.s o6.1.l), ()), ()))
  else kx (((Ev.Val.mk o5.1.kind o5.1.n o5.1.s o5.1.l), ()), ((Ev.Val.mk o6.1.kind o6.1.n o6.1.s o6.1.l), ()), ()))

/-- espalierref.OrderOf -/
noncomputable def eR_OrderOf_b (self_eR_OrderOf : Ev.Val × Ev.Val × Unit → Option (Int × Unit)) (n : Nat) : Ev.Val × Ev.Val × Unit → Option (Int × Unit) :=
  fun (a1, a2, _) => 
  (bif decide ((a1.kind : Int) < a2.kind) then some ((-1), ())
  else 
  (bif decide ((a1.kind : Int) > a2.kind) then some (1, ())
  else 
  (bif decide ((a1.n : Int) < a2.n) then some ((-1), ())
  else 
  (bif decide ((a1.n : Int) > a2.n) then some (1, ())
  else 
  (bif !(seq a1.s a2.s) then 
  (bytes_Compare (bytesI a1.s, bytesI a2.s, ())).bind fun (y3, _) => some (y3, ())
  else 
  iterN (fun rc15 => eR_OrderOf_s1 self_eR_OrderOf n rc15 (fun (o12, o13, _) => 
  (bif decide (((o12.1.l.length : Int) : Int) < (o13.1.l.length : Int)) then some ((-1), ())
  else 
  (bif decide (((o12.1.l.length : Int) : Int) > (o13.1.l.length : Int)) then some (1, ())
  else some (0, ())))) (fun (v14, _) => some (v14, ()))) (n) (0, ((Ev.Val.mk a1.kind a1.n a1.s a1.l), ()), ((Ev.Val.mk a2.kind a2.n a2.s a2.l), ()), ()))))))

noncomputable def eR_OrderOf : Nat → Ev.Val × Ev.Val × Unit → Option (Int × Unit)
  | 0, _ => none
  | n + 1, x => eR_OrderOf_b (eR_OrderOf n) n x

/-- espalierref.CompareRows -/
noncomputable def eR_CompareRows (n : Nat) : (List Ev.Val) × (List Ev.Val) × Unit → Option (Int × Unit) :=
  fun (a1, a2, _) => 
  (eR_OrderOf n ((Ev.Val.mk 4 0 (⟨#[]⟩ : ByteArray) a1), (Ev.Val.mk 4 0 (⟨#[]⟩ : ByteArray) a2), ())).bind fun (y3, _) => some (y3, ())

/-- a round of a loop of espalierref.CheckBag -/
noncomputable def eR_CheckBag_s2 {ρ : Type} (n : Nat) (rec : (List Ev.Cnt) × Int × (List Ev.Cnt) × Int × Int × (List Ev.Val) × Int × Int × (Ev.Cnt × Unit) × Unit → Option ρ) (kx : (List Ev.Cnt) × Int × (List Ev.Cnt) × Int × Int × (Ev.Cnt × Unit) × Unit → Option ρ) (kr : Int × Unit → Option ρ) : (List Ev.Cnt) × Int × (List Ev.Cnt) × Int × Int × (List Ev.Val) × Int × Int × (Ev.Cnt × Unit) × Unit → Option ρ :=
  fun (v7, v8, v9, v10, v11, v12, v13, v14, o15, _) => 
  (bif decide ((v14 : Int) < v13) then 
  (ix v12 v14).bind fun x16 => 
  (eR_CheckValue n ((Ev.Val.mk x16.kind x16.n x16.s x16.l), 1, ())).bind fun (y17, _) => 
  (bif (y17 : Int) != 0 then kr (y17, ())
  else rec (v7, v8, v9, v10, v11, v12, v13, IntKind.wrap .i64 (v14 + 1), ((Ev.Cnt.mk o15.1.r o15.1.n), ()), ()))
  else kx (v7, v8, v9, v10, v11, ((Ev.Cnt.mk o15.1.r o15.1.n), ()), ()))

/-- a round of a loop of espalierref.CheckBag -/
noncomputable def eR_CheckBag_s0 {ρ : Type} (n : Nat) (rec : (List Ev.Cnt) × (List Ev.Cnt) × Int × Int × Unit → Option ρ) (kx : Unit → Option ρ) (kr : Int × Unit → Option ρ) : (List Ev.Cnt) × (List Ev.Cnt) × Int × Int × Unit → Option ρ :=
  fun (v2, v3, v4, v5, _) => 
  (bif decide ((v5 : Int) < v4) then 
  (ix v3 v5).bind fun x6 => 
  (bif decide (((x6.r.length : Int) : Int) > 30) then kr (2, ())
  else 
  iterN (fun rc27 => eR_CheckBag_s2 n rc27 (fun (v18, v19, v20, v21, v22, o23, _) => 
  (bif (o23.1.n : Int) == 0 then kr (6, ())
  else 
  (bif decide ((v19 : Int) > 0) then 
  (ix v18 (IntKind.wrap .i64 (v19 - 1))).bind fun x25 => 
  (eR_CompareRows n (x25.r, o23.1.r, ())).bind fun (y26, _) => 
  (bif decide ((y26 : Int) ≥ 0) then kr (6, ())
  else 
  (bif (decide ((o23.1.n : Int) > 1099511627776)) || (decide ((o23.1.n : Int) < (-1099511627776))) then kr (9, ())
  else rec (v18, v20, v21, IntKind.wrap .i64 (v22 + 1), ())))
  else 
  (bif (decide ((o23.1.n : Int) > 1099511627776)) || (decide ((o23.1.n : Int) < (-1099511627776))) then kr (9, ())
  else rec (v18, v20, v21, IntKind.wrap .i64 (v22 + 1), ()))))) (fun (v24, _) => kr (v24, ()))) (n) (v2, v5, v3, v4, v5, x6.r, (x6.r.length : Int), 0, ((Ev.Cnt.mk x6.r x6.n), ()), ()))
  else kx (()))

noncomputable def F_eR_CheckBag_s2 {ρ : Type} (n : Nat) (kr : Int × Unit → Option ρ) : Int → Ev.Val → ((List Ev.Cnt) × Int × (List Ev.Cnt) × Int × Int × (Ev.Cnt × Unit) × Unit) → (((List Ev.Cnt) × Int × (List Ev.Cnt) × Int × Int × (Ev.Cnt × Unit) × Unit) → Option ρ) → Option ρ :=
  fun v14 x16 (v7, v8, v9, v10, v11, o15, _) rec =>  
  (eR_CheckValue n ((Ev.Val.mk x16.kind x16.n x16.s x16.l), 1, ())).bind fun (y17, _) => 
  (bif (y17 : Int) != 0 then kr (y17, ())
  else rec (v7, v8, v9, v10, v11, ((Ev.Cnt.mk o15.1.r o15.1.n), ()), ()))

theorem R_eR_CheckBag_s2 {ρ : Type} (n : Nat) (kx : (List Ev.Cnt) × Int × (List Ev.Cnt) × Int × Int × (Ev.Cnt × Unit) × Unit → Option ρ) (kr : Int × Unit → Option ρ) (l : List Ev.Val) (fuel : Nat) (v7 : List Ev.Cnt) (v8 : Int) (v9 : List Ev.Cnt) (v10 : Int) (v11 : Int) (o15 : Ev.Cnt × Unit) (hl : l.length ≤ 9223372036854775807) (hf : l.length < fuel) :
    iterN (fun rc => eR_CheckBag_s2 n rc kx kr) fuel (v7, v8, v9, v10, v11, l, (l.length : Int), 0, o15, ()) = foldK (F_eR_CheckBag_s2 n kr) (fun (v7, v8, v9, v10, v11, o15, _) => kx (v7, v8, v9, v10, v11, ((Ev.Cnt.mk o15.1.r o15.1.n), ()), ())) 0 l (v7, v8, v9, v10, v11, o15, ()) :=
  range_listM l (fun i (v7, v8, v9, v10, v11, o15, _) => (v7, v8, v9, v10, v11, l, (l.length : Int), i, o15, ())) _ _ _ (fun rec i s => rfl) hl fuel (v7, v8, v9, v10, v11, o15, ()) hf

/-- espalierref.CheckBag -/
noncomputable def eR_CheckBag (n : Nat) : (List Ev.Cnt) × Unit → Option (Int × Unit) :=
  fun (a1, _) => 
  (bif decide (((a1.length : Int) : Int) > 2000) then some (2, ())
  else 
  iterN (fun rc29 => eR_CheckBag_s0 n rc29 (fun (_) => some (0, ())) (fun (v28, _) => some (v28, ()))) (n) (a1, a1, (a1.length : Int), 0, ()))

/-- a round of a loop of espalierlaw.checkGuest -/
noncomputable def eL_checkGuest_s0 {ρ : Type} (n : Nat) (rec : Int × (List (List Ev.Cnt)) × Int × Int × (Ev.Guest × Unit) × Unit → Option ρ) (kx : Int × (Ev.Guest × Unit) × Unit → Option ρ) (kr : Int × Unit → Option ρ) : Int × (List (List Ev.Cnt)) × Int × Int × (Ev.Guest × Unit) × Unit → Option ρ :=
  fun (v2, v3, v4, v5, o6, _) => 
  (bif decide ((v5 : Int) < v4) then 
  (ix v3 v5).bind fun x7 => 
  (eR_CheckBag n (x7, ())).bind fun (y8, _) => 
  (bif (y8 : Int) != 0 then kr (y8, ())
  else 
  (bif ((x7.length : Int) : Int) == 0 then kr (6, ())
  else rec (IntKind.wrap .i64 (v2 + (x7.length : Int)), v3, v4, IntKind.wrap .i64 (v5 + 1), ((Ev.Guest.mk o6.1.view o6.1.queue o6.1.fresh o6.1.at_), ()), ())))
  else kx (v2, ((Ev.Guest.mk o6.1.view o6.1.queue o6.1.fresh o6.1.at_), ()), ()))

noncomputable def F_eL_checkGuest_s0 {ρ : Type} (n : Nat) (kr : Int × Unit → Option ρ) : Int → ((List Ev.Cnt)) → (Int × (Ev.Guest × Unit) × Unit) → ((Int × (Ev.Guest × Unit) × Unit) → Option ρ) → Option ρ :=
  fun v5 x7 (v2, o6, _) rec =>  
  (eR_CheckBag n (x7, ())).bind fun (y8, _) => 
  (bif (y8 : Int) != 0 then kr (y8, ())
  else 
  (bif ((x7.length : Int) : Int) == 0 then kr (6, ())
  else rec (IntKind.wrap .i64 (v2 + (x7.length : Int)), ((Ev.Guest.mk o6.1.view o6.1.queue o6.1.fresh o6.1.at_), ()), ())))

theorem R_eL_checkGuest_s0 {ρ : Type} (n : Nat) (kx : Int × (Ev.Guest × Unit) × Unit → Option ρ) (kr : Int × Unit → Option ρ) (l : List (List Ev.Cnt)) (fuel : Nat) (v2 : Int) (o6 : Ev.Guest × Unit) (hl : l.length ≤ 9223372036854775807) (hf : l.length < fuel) :
    iterN (fun rc => eL_checkGuest_s0 n rc kx kr) fuel (v2, l, (l.length : Int), 0, o6, ()) = foldK (F_eL_checkGuest_s0 n kr) (fun (v2, o6, _) => kx (v2, ((Ev.Guest.mk o6.1.view o6.1.queue o6.1.fresh o6.1.at_), ()), ())) 0 l (v2, o6, ()) :=
  range_listM l (fun i (v2, o6, _) => (v2, l, (l.length : Int), i, o6, ())) _ _ _ (fun rec i s => rfl) hl fuel (v2, o6, ()) hf

/-- espalierlaw.checkGuest -/
noncomputable def eL_checkGuest (n : Nat) : Ev.Guest × Unit → Option (Int × Unit) :=
  fun (a1, _) => 
  (bif (decide ((a1.view : Int) < 0)) || (decide ((a1.at_ : Int) < 0)) then some (9, ())
  else 
  iterN (fun rc12 => eL_checkGuest_s0 n rc12 (fun (v9, o10, _) => 
  (bif decide ((v9 : Int) > 40) then some (2, ())
  else 
  (bif o10.1.fresh && (decide ((v9 : Int) > 0)) then some (6, ())
  else some (0, ())))) (fun (v11, _) => some (v11, ()))) (n) (0, a1.queue, (a1.queue.length : Int), 0, ((Ev.Guest.mk a1.view a1.queue a1.fresh a1.at_), ()), ()))

/-- espalierref.BagOf$1 -/
noncomputable def eR_BagOf_1 (n : Nat) : Int × Int × Unit × (List Ev.Cnt) × Unit → Option (Bool × Unit × (List Ev.Cnt) × Unit) :=
  fun (a1, a2, o3, o4, _) => 
  (ix o4 a1).bind fun _ => 
  ((o4)[(a1 : Int).toNat]?).bind fun e7 => 
  (ix o4 a2).bind fun _ => 
  ((o4)[(a2 : Int).toNat]?).bind fun e8 => 
  (eR_CompareRows n (e7.r, e8.r, ())).bind fun (y9, _) => some (decide ((y9 : Int) < 0), (()), o4, ())

/-- a round of a loop of sort.insertionSort_func -/
noncomputable def sort_insertionSort_func_two_eR_BagOf_1_c_s2 {ρ : Type} (n : Nat) (rec : Int × Int × Int × Int × Unit × Unit × (List Ev.Cnt) × Unit → Option ρ) (kx : Int × Int × Int × Unit × Unit × (List Ev.Cnt) × Unit → Option ρ) (kr : Unit → Option ρ) : Int × Int × Int × Int × Unit × Unit × (List Ev.Cnt) × Unit → Option ρ :=
  fun (v11, v12, v13, v14, o15, o16, o17, _) => 
  (bif decide ((v14 : Int) > v11) then 
  (eR_BagOf_1 n (v14, IntKind.wrap .i64 (v14 - 1), (()), o17, ())).bind fun (y18, o19, o20, _) => 
  (bif y18 then 
  (swapN (v14, IntKind.wrap .i64 (v14 - 1), o20, ())).bind fun (o21, _) => rec (v11, v12, v13, IntKind.wrap .i64 (v14 - 1), (()), (()), o21, ())
  else kx (v11, v12, v13, (()), (()), o20, ()))
  else kx (v11, v12, v13, (()), (()), o17, ()))

/-- a round of a loop of sort.insertionSort_func -/
noncomputable def sort_insertionSort_func_two_eR_BagOf_1_c_s0 {ρ : Type} (n : Nat) (rec : Int × Int × Int × Unit × Unit × (List Ev.Cnt) × Unit → Option ρ) (kx : Unit × (List Ev.Cnt) × Unit → Option ρ) (kr : Unit → Option ρ) : Int × Int × Int × Unit × Unit × (List Ev.Cnt) × Unit → Option ρ :=
  fun (v5, v6, v7, o8, o9, o10, _) => 
  (bif decide ((v7 : Int) < v6) then 
  iterN (fun rc28 => sort_insertionSort_func_two_eR_BagOf_1_c_s2 n rc28 (fun (v22, v23, v24, o25, o26, o27, _) => rec (v22, v23, IntKind.wrap .i64 (v24 + 1), (()), (()), o27, ())) (fun (_) => none)) (n) (v5, v6, v7, v7, (()), (()), o10, ())
  else kx ((()), o10, ()))

/-- sort.insertionSort_func -/
noncomputable def sort_insertionSort_func_two_eR_BagOf_1_c (n : Nat) : Int × Int × Unit × (List Ev.Cnt) × Unit → Option (Unit × (List Ev.Cnt) × Unit) :=
  fun (a1, a2, o3, o4, _) => 
  iterN (fun rc31 => sort_insertionSort_func_two_eR_BagOf_1_c_s0 n rc31 (fun (o29, o30, _) => some ((()), o30, ())) (fun (_) => none)) (n) (a1, a2, IntKind.wrap .i64 (a1 + 1), (()), (()), o4, ())

/-- a round of a loop of sort.swapRange_func -/
noncomputable def sort_swapRange_func_two_eR_BagOf_1_c_s0 {ρ : Type} (n : Nat) (rec : Int × Int × Int × Int × Unit × Unit × (List Ev.Cnt) × Unit → Option ρ) (kx : Unit × (List Ev.Cnt) × Unit → Option ρ) (kr : Unit → Option ρ) : Int × Int × Int × Int × Unit × Unit × (List Ev.Cnt) × Unit → Option ρ :=
  fun (v6, v7, v8, v9, o10, o11, o12, _) => 
  (bif decide ((v9 : Int) < v8) then 
  (swapN (IntKind.wrap .i64 (v6 + v9), IntKind.wrap .i64 (v7 + v9), o12, ())).bind fun (o13, _) => rec (v6, v7, v8, IntKind.wrap .i64 (v9 + 1), (()), (()), o13, ())
  else kx ((()), o12, ()))

/-- sort.swapRange_func -/
noncomputable def sort_swapRange_func_two_eR_BagOf_1_c (n : Nat) : Int × Int × Int × Unit × (List Ev.Cnt) × Unit → Option (Unit × (List Ev.Cnt) × Unit) :=
  fun (a1, a2, a3, o4, o5, _) => 
  iterN (fun rc16 => sort_swapRange_func_two_eR_BagOf_1_c_s0 n rc16 (fun (o14, o15, _) => some ((()), o15, ())) (fun (_) => none)) (n) (a1, a2, a3, 0, (()), (()), o5, ())

/-- a round of a loop of sort.rotate_func -/
noncomputable def sort_rotate_func_two_eR_BagOf_1_c_s0 {ρ : Type} (n : Nat) (rec : Int × Int × Int × Unit × Unit × (List Ev.Cnt) × Unit → Option ρ) (kx : Int × Int × Unit × Unit × (List Ev.Cnt) × Unit → Option ρ) (kr : Unit → Option ρ) : Int × Int × Int × Unit × Unit × (List Ev.Cnt) × Unit → Option ρ :=
  fun (v6, v7, v8, o9, o10, o11, _) => 
  (bif (v7 : Int) != v8 then 
  (bif decide ((v7 : Int) > v8) then 
  (sort_swapRange_func_two_eR_BagOf_1_c n (IntKind.wrap .i64 (v6 - v7), v6, v8, (()), o11, ())).bind fun (o12, o13, _) => rec (v6, IntKind.wrap .i64 (v7 - v8), v8, (()), (()), o13, ())
  else 
  (sort_swapRange_func_two_eR_BagOf_1_c n (IntKind.wrap .i64 (v6 - v7), IntKind.wrap .i64 ((IntKind.wrap .i64 (v6 + v8)) - v7), v7, (()), o11, ())).bind fun (o14, o15, _) => rec (v6, v7, IntKind.wrap .i64 (v8 - v7), (()), (()), o15, ()))
  else kx (v6, v7, (()), (()), o11, ()))

/-- sort.rotate_func -/
noncomputable def sort_rotate_func_two_eR_BagOf_1_c (n : Nat) : Int × Int × Int × Unit × (List Ev.Cnt) × Unit → Option (Unit × (List Ev.Cnt) × Unit) :=
  fun (a1, a2, a3, o4, o5, _) => 
  iterN (fun rc23 => sort_rotate_func_two_eR_BagOf_1_c_s0 n rc23 (fun (v16, v17, o18, o19, o20, _) => 
  (sort_swapRange_func_two_eR_BagOf_1_c n (IntKind.wrap .i64 (v16 - v17), v16, v17, (()), o20, ())).bind fun (o21, o22, _) => some ((()), o22, ())) (fun (_) => none)) (n) (a2, IntKind.wrap .i64 (a2 - a1), IntKind.wrap .i64 (a3 - a2), (()), (()), o5, ())

/-- a round of a loop of sort.symMerge_func -/
noncomputable def sort_symMerge_func_two_eR_BagOf_1_c_s0 {ρ : Type} (self_sort_symMerge_func_two_eR_BagOf_1_c : Int × Int × Int × Unit × (List Ev.Cnt) × Unit → Option (Unit × (List Ev.Cnt) × Unit)) (n : Nat) (rec : Int × Int × Int × Unit × Unit × (List Ev.Cnt) × Unit → Option ρ) (kx : Int × Int × Unit × Unit × (List Ev.Cnt) × Unit → Option ρ) (kr : Unit → Option ρ) : Int × Int × Int × Unit × Unit × (List Ev.Cnt) × Unit → Option ρ :=
  fun (v6, v7, v8, o9, o10, o11, _) => 
  (bif decide ((v7 : Int) < v8) then 
  (eR_BagOf_1 n (IntKind.wrap .i64 (bshr .u64 (IntKind.wrap .u64 (IntKind.wrap .i64 (v7 + v8))) 1), v6, (()), o11, ())).bind fun (y12, o13, o14, _) => 
  (bif y12 then rec (v6, IntKind.wrap .i64 ((IntKind.wrap .i64 (bshr .u64 (IntKind.wrap .u64 (IntKind.wrap .i64 (v7 + v8))) 1)) + 1), v8, (()), (()), o14, ())
  else rec (v6, v7, IntKind.wrap .i64 (bshr .u64 (IntKind.wrap .u64 (IntKind.wrap .i64 (v7 + v8))) 1), (()), (()), o14, ()))
  else kx (v6, v7, (()), (()), o11, ()))

/-- a round of a loop of sort.symMerge_func -/
noncomputable def sort_symMerge_func_two_eR_BagOf_1_c_s2 {ρ : Type} (self_sort_symMerge_func_two_eR_BagOf_1_c : Int × Int × Int × Unit × (List Ev.Cnt) × Unit → Option (Unit × (List Ev.Cnt) × Unit)) (n : Nat) (rec : Int × Int × Unit × Unit × (List Ev.Cnt) × Unit → Option ρ) (kx : Unit × (List Ev.Cnt) × Unit → Option ρ) (kr : Unit → Option ρ) : Int × Int × Unit × Unit × (List Ev.Cnt) × Unit → Option ρ :=
  fun (v20, v21, o22, o23, o24, _) => 
  (bif decide ((v21 : Int) < (IntKind.wrap .i64 (v20 - 1))) then 
  (swapN (v21, IntKind.wrap .i64 (v21 + 1), o24, ())).bind fun (o25, _) => rec (v20, IntKind.wrap .i64 (v21 + 1), (()), (()), o25, ())
  else kx ((()), o24, ()))

/-- a round of a loop of sort.symMerge_func -/
noncomputable def sort_symMerge_func_two_eR_BagOf_1_c_s4 {ρ : Type} (self_sort_symMerge_func_two_eR_BagOf_1_c : Int × Int × Int × Unit × (List Ev.Cnt) × Unit → Option (Unit × (List Ev.Cnt) × Unit)) (n : Nat) (rec : Int × Int × Int × Unit × Unit × (List Ev.Cnt) × Unit → Option ρ) (kx : Int × Int × Unit × Unit × (List Ev.Cnt) × Unit → Option ρ) (kr : Unit → Option ρ) : Int × Int × Int × Unit × Unit × (List Ev.Cnt) × Unit → Option ρ :=
  fun (v30, v31, v32, o33, o34, o35, _) => 
  (bif decide ((v31 : Int) < v32) then 
  (eR_BagOf_1 n (v30, IntKind.wrap .i64 (bshr .u64 (IntKind.wrap .u64 (IntKind.wrap .i64 (v31 + v32))) 1), (()), o35, ())).bind fun (y36, o37, o38, _) => 
  (bif !y36 then rec (v30, IntKind.wrap .i64 ((IntKind.wrap .i64 (bshr .u64 (IntKind.wrap .u64 (IntKind.wrap .i64 (v31 + v32))) 1)) + 1), v32, (()), (()), o38, ())
  else rec (v30, v31, IntKind.wrap .i64 (bshr .u64 (IntKind.wrap .u64 (IntKind.wrap .i64 (v31 + v32))) 1), (()), (()), o38, ()))
  else kx (v30, v31, (()), (()), o35, ()))

/-- a round of a loop of sort.symMerge_func -/
noncomputable def sort_symMerge_func_two_eR_BagOf_1_c_s6 {ρ : Type} (self_sort_symMerge_func_two_eR_BagOf_1_c : Int × Int × Int × Unit × (List Ev.Cnt) × Unit → Option (Unit × (List Ev.Cnt) × Unit)) (n : Nat) (rec : Int × Int × Unit × Unit × (List Ev.Cnt) × Unit → Option ρ) (kx : Unit × (List Ev.Cnt) × Unit → Option ρ) (kr : Unit → Option ρ) : Int × Int × Unit × Unit × (List Ev.Cnt) × Unit → Option ρ :=
  fun (v44, v45, o46, o47, o48, _) => 
  (bif decide ((v45 : Int) > v44) then 
  (swapN (v45, IntKind.wrap .i64 (v45 - 1), o48, ())).bind fun (o49, _) => rec (v44, IntKind.wrap .i64 (v45 - 1), (()), (()), o49, ())
  else kx ((()), o48, ()))

/-- a round of a loop of sort.symMerge_func -/
noncomputable def sort_symMerge_func_two_eR_BagOf_1_c_s8 {ρ : Type} (self_sort_symMerge_func_two_eR_BagOf_1_c : Int × Int × Int × Unit × (List Ev.Cnt) × Unit → Option (Unit × (List Ev.Cnt) × Unit)) (n : Nat) (rec : Int × Int × Int × Int × Int × Int × Int × Int × Unit × Unit × (List Ev.Cnt) × Unit → Option ρ) (kx : Int × Int × Int × Int × Int × Int × Unit × Unit × (List Ev.Cnt) × Unit → Option ρ) (kr : Unit → Option ρ) : Int × Int × Int × Int × Int × Int × Int × Int × Unit × Unit × (List Ev.Cnt) × Unit → Option ρ :=
  fun (v54, v55, v56, v57, v58, v59, v60, v61, o62, o63, o64, _) => 
  (bif decide ((v59 : Int) < v60) then 
  (eR_BagOf_1 n (IntKind.wrap .i64 (v61 - (IntKind.wrap .i64 (bshr .u64 (IntKind.wrap .u64 (IntKind.wrap .i64 (v59 + v60))) 1))), IntKind.wrap .i64 (bshr .u64 (IntKind.wrap .u64 (IntKind.wrap .i64 (v59 + v60))) 1), (()), o64, ())).bind fun (y65, o66, o67, _) => 
  (bif !y65 then rec (v54, v55, v56, v57, v58, IntKind.wrap .i64 ((IntKind.wrap .i64 (bshr .u64 (IntKind.wrap .u64 (IntKind.wrap .i64 (v59 + v60))) 1)) + 1), v60, v61, (()), (()), o67, ())
  else rec (v54, v55, v56, v57, v58, v59, IntKind.wrap .i64 (bshr .u64 (IntKind.wrap .u64 (IntKind.wrap .i64 (v59 + v60))) 1), v61, (()), (()), o67, ()))
  else kx (v54, v55, v56, v57, v58, v59, (()), (()), o64, ()))

/-- sort.symMerge_func -/
noncomputable def sort_symMerge_func_two_eR_BagOf_1_c_b (self_sort_symMerge_func_two_eR_BagOf_1_c : Int × Int × Int × Unit × (List Ev.Cnt) × Unit → Option (Unit × (List Ev.Cnt) × Unit)) (n : Nat) : Int × Int × Int × Unit × (List Ev.Cnt) × Unit → Option (Unit × (List Ev.Cnt) × Unit) :=
  fun (a1, a2, a3, o4, o5, _) => 
  (bif (IntKind.wrap .i64 (a2 - a1) : Int) == 1 then 
  iterN (fun rc29 => sort_symMerge_func_two_eR_BagOf_1_c_s0 self_sort_symMerge_func_two_eR_BagOf_1_c n rc29 (fun (v15, v16, o17, o18, o19, _) => 
  iterN (fun rc28 => sort_symMerge_func_two_eR_BagOf_1_c_s2 self_sort_symMerge_func_two_eR_BagOf_1_c n rc28 (fun (o26, o27, _) => some ((()), o27, ())) (fun (_) => none)) (n) (v16, v15, (()), (()), o19, ())) (fun (_) => none)) (n) (a1, a2, a3, (()), (()), o5, ())
  else 
  (bif (IntKind.wrap .i64 (a3 - a2) : Int) == 1 then 
  iterN (fun rc53 => sort_symMerge_func_two_eR_BagOf_1_c_s4 self_sort_symMerge_func_two_eR_BagOf_1_c n rc53 (fun (v39, v40, o41, o42, o43, _) => 
  iterN (fun rc52 => sort_symMerge_func_two_eR_BagOf_1_c_s6 self_sort_symMerge_func_two_eR_BagOf_1_c n rc52 (fun (o50, o51, _) => some ((()), o51, ())) (fun (_) => none)) (n) (v40, v39, (()), (()), o43, ())) (fun (_) => none)) (n) (a2, a1, a2, (()), (()), o5, ())
  else 
  (bif decide ((a2 : Int) > (IntKind.wrap .i64 (bshr .u64 (IntKind.wrap .u64 (IntKind.wrap .i64 (a1 + a3))) 1))) then 
  iterN (fun rc91 => sort_symMerge_func_two_eR_BagOf_1_c_s8 self_sort_symMerge_func_two_eR_BagOf_1_c n rc91 (fun (v68, v69, v70, v71, v72, v73, o74, o75, o76, _) => 
  (bif (decide ((v73 : Int) < v69)) && (decide ((v69 : Int) < (IntKind.wrap .i64 (v72 - v73)))) then 
  (sort_rotate_func_two_eR_BagOf_1_c n (v73, v69, IntKind.wrap .i64 (v72 - v73), (()), o76, ())).bind fun (o77, o78, _) => 
  (bif (decide ((v68 : Int) < v73)) && (decide ((v73 : Int) < v71)) then 
  (self_sort_symMerge_func_two_eR_BagOf_1_c (v68, v73, v71, (()), o78, ())).bind fun (o79, o80, _) => 
  (bif (decide ((v71 : Int) < (IntKind.wrap .i64 (v72 - v73)))) && (decide ((IntKind.wrap .i64 (v72 - v73) : Int) < v70)) then 
  (self_sort_symMerge_func_two_eR_BagOf_1_c (v71, IntKind.wrap .i64 (v72 - v73), v70, (()), o80, ())).bind fun (o81, o82, _) => some ((()), o82, ())
  else some ((()), o80, ()))
  else 
  (bif (decide ((v71 : Int) < (IntKind.wrap .i64 (v72 - v73)))) && (decide ((IntKind.wrap .i64 (v72 - v73) : Int) < v70)) then 
  (self_sort_symMerge_func_two_eR_BagOf_1_c (v71, IntKind.wrap .i64 (v72 - v73), v70, (()), o78, ())).bind fun (o83, o84, _) => some ((()), o84, ())
  else some ((()), o78, ())))
  else 
  (bif (decide ((v68 : Int) < v73)) && (decide ((v73 : Int) < v71)) then 
  (self_sort_symMerge_func_two_eR_BagOf_1_c (v68, v73, v71, (()), o76, ())).bind fun (o85, o86, _) => 
  (bif (decide ((v71 : Int) < (IntKind.wrap .i64 (v72 - v73)))) && (decide ((IntKind.wrap .i64 (v72 - v73) : Int) < v70)) then 
  (self_sort_symMerge_func_two_eR_BagOf_1_c (v71, IntKind.wrap .i64 (v72 - v73), v70, (()), o86, ())).bind fun (o87, o88, _) => some ((()), o88, ())
  else some ((()), o86, ()))
  else 
  (bif (decide ((v71 : Int) < (IntKind.wrap .i64 (v72 - v73)))) && (decide ((IntKind.wrap .i64 (v72 - v73) : Int) < v70)) then 
  (self_sort_symMerge_func_two_eR_BagOf_1_c (v71, IntKind.wrap .i64 (v72 - v73), v70, (()), o76, ())).bind fun (o89, o90, _) => some ((()), o90, ())
  else some ((()), o76, ()))))) (fun (_) => none)) (n) (a1, a2, a3, IntKind.wrap .i64 (bshr .u64 (IntKind.wrap .u64 (IntKind.wrap .i64 (a1 + a3))) 1), IntKind.wrap .i64 ((IntKind.wrap .i64 (bshr .u64 (IntKind.wrap .u64 (IntKind.wrap .i64 (a1 + a3))) 1)) + a2), IntKind.wrap .i64 ((IntKind.wrap .i64 ((IntKind.wrap .i64 (bshr .u64 (IntKind.wrap .u64 (IntKind.wrap .i64 (a1 + a3))) 1)) + a2)) - a3), IntKind.wrap .i64 (bshr .u64 (IntKind.wrap .u64 (IntKind.wrap .i64 (a1 + a3))) 1), IntKind.wrap .i64 ((IntKind.wrap .i64 ((IntKind.wrap .i64 (bshr .u64 (IntKind.wrap .u64 (IntKind.wrap .i64 (a1 + a3))) 1)) + a2)) - 1), (()), (()), o5, ())
  else 
  iterN (fun rc115 => sort_symMerge_func_two_eR_BagOf_1_c_s8 self_sort_symMerge_func_two_eR_BagOf_1_c n rc115 (fun (v92, v93, v94, v95, v96, v97, o98, o99, o100, _) => 
  (bif (decide ((v97 : Int) < v93)) && (decide ((v93 : Int) < (IntKind.wrap .i64 (v96 - v97)))) then 
  (sort_rotate_func_two_eR_BagOf_1_c n (v97, v93, IntKind.wrap .i64 (v96 - v97), (()), o100, ())).bind fun (o101, o102, _) => 
  (bif (decide ((v92 : Int) < v97)) && (decide ((v97 : Int) < v95)) then 
  (self_sort_symMerge_func_two_eR_BagOf_1_c (v92, v97, v95, (()), o102, ())).bind fun (o103, o104, _) => 
  (bif (decide ((v95 : Int) < (IntKind.wrap .i64 (v96 - v97)))) && (decide ((IntKind.wrap .i64 (v96 - v97) : Int) < v94)) then 
  (self_sort_symMerge_func_two_eR_BagOf_1_c (v95, IntKind.wrap .i64 (v96 - v97), v94, (()), o104, ())).bind fun (o105, o106, _) => some ((()), o106, ())
  else some ((()), o104, ()))
  else 
  (bif (decide ((v95 : Int) < (IntKind.wrap .i64 (v96 - v97)))) && (decide ((IntKind.wrap .i64 (v96 - v97) : Int) < v94)) then 
  (self_sort_symMerge_func_two_eR_BagOf_1_c (v95, IntKind.wrap .i64 (v96 - v97), v94, (()), o102, ())).bind fun (o107, o108, _) => some ((()), o108, ())
  else some ((()), o102, ())))
  else 
  (bif (decide ((v92 : Int) < v97)) && (decide ((v97 : Int) < v95)) then 
  (self_sort_symMerge_func_two_eR_BagOf_1_c (v92, v97, v95, (()), o100, ())).bind fun (o109, o110, _) => 
  (bif (decide ((v95 : Int) < (IntKind.wrap .i64 (v96 - v97)))) && (decide ((IntKind.wrap .i64 (v96 - v97) : Int) < v94)) then 
  (self_sort_symMerge_func_two_eR_BagOf_1_c (v95, IntKind.wrap .i64 (v96 - v97), v94, (()), o110, ())).bind fun (o111, o112, _) => some ((()), o112, ())
  else some ((()), o110, ()))
  else 
  (bif (decide ((v95 : Int) < (IntKind.wrap .i64 (v96 - v97)))) && (decide ((IntKind.wrap .i64 (v96 - v97) : Int) < v94)) then 
  (self_sort_symMerge_func_two_eR_BagOf_1_c (v95, IntKind.wrap .i64 (v96 - v97), v94, (()), o100, ())).bind fun (o113, o114, _) => some ((()), o114, ())
  else some ((()), o100, ()))))) (fun (_) => none)) (n) (a1, a2, a3, IntKind.wrap .i64 (bshr .u64 (IntKind.wrap .u64 (IntKind.wrap .i64 (a1 + a3))) 1), IntKind.wrap .i64 ((IntKind.wrap .i64 (bshr .u64 (IntKind.wrap .u64 (IntKind.wrap .i64 (a1 + a3))) 1)) + a2), a1, a2, IntKind.wrap .i64 ((IntKind.wrap .i64 ((IntKind.wrap .i64 (bshr .u64 (IntKind.wrap .u64 (IntKind.wrap .i64 (a1 + a3))) 1)) + a2)) - 1), (()), (()), o5, ()))))

noncomputable def sort_symMerge_func_two_eR_BagOf_1_c : Nat → Int × Int × Int × Unit × (List Ev.Cnt) × Unit → Option (Unit × (List Ev.Cnt) × Unit)
  | 0, _ => none
  | n + 1, x => sort_symMerge_func_two_eR_BagOf_1_c_b (sort_symMerge_func_two_eR_BagOf_1_c n) n x

/-- a round of a loop of sort.stable_func -/
noncomputable def sort_stable_func_two_eR_BagOf_1_c_s0 {ρ : Type} (n : Nat) (rec : Int × Int × Int × Int × Unit × Unit × (List Ev.Cnt) × Unit → Option ρ) (kx : Int × Int × Int × Unit × Unit × (List Ev.Cnt) × Unit → Option ρ) (kr : Unit → Option ρ) : Int × Int × Int × Int × Unit × Unit × (List Ev.Cnt) × Unit → Option ρ :=
  fun (v4, v5, v6, v7, o8, o9, o10, _) => 
  (bif decide ((v7 : Int) ≤ v4) then 
  (sort_insertionSort_func_two_eR_BagOf_1_c n (v6, v7, (()), o10, ())).bind fun (o11, o12, _) => rec (v4, v5, v7, IntKind.wrap .i64 (v7 + v5), (()), (()), o12, ())
  else kx (v4, v5, v6, (()), (()), o10, ()))

/-- a round of a loop of sort.stable_func -/
noncomputable def sort_stable_func_two_eR_BagOf_1_c_s4 {ρ : Type} (n : Nat) (rec : Int × Int × Int × Int × Unit × Unit × (List Ev.Cnt) × Unit → Option ρ) (kx : Int × Int × Int × Unit × Unit × (List Ev.Cnt) × Unit → Option ρ) (kr : Unit → Option ρ) : Int × Int × Int × Int × Unit × Unit × (List Ev.Cnt) × Unit → Option ρ :=
  fun (v26, v27, v28, v29, o30, o31, o32, _) => 
  (bif decide ((v29 : Int) ≤ v26) then 
  (sort_symMerge_func_two_eR_BagOf_1_c n (v28, IntKind.wrap .i64 (v28 + v27), v29, (()), o32, ())).bind fun (o33, o34, _) => rec (v26, v27, v29, IntKind.wrap .i64 (v29 + (IntKind.wrap .i64 (2 * v27))), (()), (()), o34, ())
  else kx (v26, v27, v28, (()), (()), o32, ()))

/-- a round of a loop of sort.stable_func -/
noncomputable def sort_stable_func_two_eR_BagOf_1_c_s2 {ρ : Type} (n : Nat) (rec : Int × Int × Unit × Unit × (List Ev.Cnt) × Unit → Option ρ) (kx : Unit × (List Ev.Cnt) × Unit → Option ρ) (kr : Unit → Option ρ) : Int × Int × Unit × Unit × (List Ev.Cnt) × Unit → Option ρ :=
  fun (v21, v22, o23, o24, o25, _) => 
  (bif decide ((v22 : Int) < v21) then 
  iterN (fun rc43 => sort_stable_func_two_eR_BagOf_1_c_s4 n rc43 (fun (v35, v36, v37, o38, o39, o40, _) => 
  (bif decide ((IntKind.wrap .i64 (v37 + v36) : Int) < v35) then 
  (sort_symMerge_func_two_eR_BagOf_1_c n (v37, IntKind.wrap .i64 (v37 + v36), v35, (()), o40, ())).bind fun (o41, o42, _) => rec (v35, IntKind.wrap .i64 (v36 * 2), (()), (()), o42, ())
  else rec (v35, IntKind.wrap .i64 (v36 * 2), (()), (()), o40, ()))) (fun (_) => none)) (n) (v21, v22, 0, IntKind.wrap .i64 (2 * v22), (()), (()), o25, ())
  else kx ((()), o25, ()))

/-- sort.stable_func -/
noncomputable def sort_stable_func_two_eR_BagOf_1_c (n : Nat) : Int × Unit × (List Ev.Cnt) × Unit → Option (Unit × (List Ev.Cnt) × Unit) :=
  fun (a1, o2, o3, _) => 
  iterN (fun rc47 => sort_stable_func_two_eR_BagOf_1_c_s0 n rc47 (fun (v13, v14, v15, o16, o17, o18, _) => 
  (sort_insertionSort_func_two_eR_BagOf_1_c n (v15, v13, (()), o18, ())).bind fun (o19, o20, _) => 
  iterN (fun rc46 => sort_stable_func_two_eR_BagOf_1_c_s2 n rc46 (fun (o44, o45, _) => some ((()), o45, ())) (fun (_) => none)) (n) (v13, v14, (()), (()), o20, ())) (fun (_) => none)) (n) (a1, 20, 0, 20, (()), (()), o3, ())

/-- sort.SliceStable over it -/
noncomputable def ssN_sort_stable_func_two_eR_BagOf_1_c (n : Nat) := ssN (sort_stable_func_two_eR_BagOf_1_c n)

/-- a round of a loop of espalierref.BagOf -/
noncomputable def eR_BagOf_s2 {ρ : Type} (n : Nat) (rec : Int × Unit × (List Ev.Cnt) × (Ev.Cnt × Unit) × (List Ev.Cnt) × Unit → Option ρ) (kx : Int × Unit × (List Ev.Cnt) × (Ev.Cnt × Unit) × (List Ev.Cnt) × Unit → Option ρ) (kr : Unit → Option ρ) : Int × Unit × (List Ev.Cnt) × (Ev.Cnt × Unit) × (List Ev.Cnt) × Unit → Option ρ :=
  fun (v10, o11, o12, o13, o14, _) => 
  (bif decide ((v10 : Int) < (o14.length : Int)) then 
  (ix o14 v10).bind fun _ => 
  ((o14)[(v10 : Int).toNat]?).bind fun e15 => 
  (eR_CompareRows n (e15.r, o13.1.r, ())).bind fun (y16, _) => 
  (bif (y16 : Int) == 0 then 
  (ix o14 v10).bind fun _ => 
  ((o14)[(v10 : Int).toNat]?).bind fun e18 => rec (IntKind.wrap .i64 (v10 + 1), (()), o12, ((Ev.Cnt.mk o13.1.r (IntKind.wrap .i64 (o13.1.n + e18.n))), ()), o14, ())
  else kx (v10, (()), o12, ((Ev.Cnt.mk o13.1.r o13.1.n), ()), o14, ()))
  else kx (v10, (()), o12, ((Ev.Cnt.mk o13.1.r o13.1.n), ()), o14, ()))

/-- a round of a loop of espalierref.BagOf -/
noncomputable def eR_BagOf_s0 {ρ : Type} (n : Nat) (rec : Int × Unit × (List Ev.Cnt) × (List Ev.Cnt) × Unit → Option ρ) (kx : (List Ev.Cnt) × Unit → Option ρ) (kr : Unit → Option ρ) : Int × Unit × (List Ev.Cnt) × (List Ev.Cnt) × Unit → Option ρ :=
  fun (v5, o6, o7, o8, _) => 
  (bif decide ((v5 : Int) < (o8.length : Int)) then 
  (ix o8 v5).bind fun _ => 
  ((o8)[(v5 : Int).toNat]?).bind fun e9 => 
  iterN (fun rc24 => eR_BagOf_s2 n rc24 (fun (v19, o20, o21, o22, o23, _) => 
  (bif (o22.1.n : Int) != 0 then 
  ck (room (o21 ++ ([(Ev.Cnt.mk o22.1.r o22.1.n)] : List Ev.Cnt)).length 32) (rec (v19, (()), o21 ++ ([(Ev.Cnt.mk o22.1.r o22.1.n)] : List Ev.Cnt), o23, ()))
  else rec (v19, (()), o21, o23, ()))) (fun (_) => none)) (n) (v5, (()), o7, ((Ev.Cnt.mk e9.r 0), ()), o8, ())
  else kx (o7, ()))

/-- espalierref.BagOf -/
noncomputable def eR_BagOf (n : Nat) : (List Ev.Cnt) × Unit → Option ((List Ev.Cnt) × Unit) :=
  fun (a1, _) => 
  (slices_Clone_C_C_own (a1, ())).bind fun (o2, _) => 
  (ssN_sort_stable_func_two_eR_BagOf_1_c n (o2, (()), ())).bind fun (o3, o4, _) => 
  iterN (fun rc26 => eR_BagOf_s0 n rc26 (fun (o25, _) => some (o25, ())) (fun (_) => none)) (n) (0, (()), ([] : List Ev.Cnt), o3, ())

/-- espalierlaw.num -/
noncomputable def eL_num : Int × Unit → Option (Ev.Val × Unit) :=
  fun (a1, _) => some ((Ev.Val.mk 2 a1 (⟨#[]⟩ : ByteArray) ([] : List Ev.Val)), ())

/-- guest.Tell$1 -/
noncomputable def guest_Tell_1 (n : Nat) : (List Ev.Cnt) × (Int × Unit) × Unit × (List (List Ev.Cnt)) × Unit → Option ((Int × Unit) × Unit × (List (List Ev.Cnt)) × Unit) :=
  fun (a1, o2, o3, o4, _) => 
  (guest_own n (a1, ())).bind fun (y6, _) => 
  ck (room (o4 ++ ([y6] : List (List Ev.Cnt))).length 24) (some ((IntKind.wrap .i64 (o2.1 + (a1.length : Int)), ()), (()), o4 ++ ([y6] : List (List Ev.Cnt)), ()))

/-- a round of a loop of guest.Tell -/
noncomputable def guest_Tell_s0 {ρ : Type} (n : Nat) (rec : (List Ev.Cnt) × (List (List Ev.Cnt)) × Int × Int × (Ev.Guest × Unit) × (Ev.Guest × Unit) × (Int × Unit) × Unit × (List (List Ev.Cnt)) × Unit → Option ρ) (kx : (List Ev.Cnt) × (Ev.Guest × Unit) × (Ev.Guest × Unit) × (Int × Unit) × Unit × (List (List Ev.Cnt)) × Unit → Option ρ) (kr : Unit → Option ρ) : (List Ev.Cnt) × (List (List Ev.Cnt)) × Int × Int × (Ev.Guest × Unit) × (Ev.Guest × Unit) × (Int × Unit) × Unit × (List (List Ev.Cnt)) × Unit → Option ρ :=
  fun (v5, v6, v7, v8, o9, o10, o11, o12, o13, _) => 
  (bif decide ((v8 : Int) < v7) then 
  (ix v6 v8).bind fun x14 => 
  (guest_Tell_1 n (x14, (o11.1, ()), (()), o13, ())).bind fun (o15, o16, o17, _) => rec (v5, v6, v7, IntKind.wrap .i64 (v8 + 1), ((Ev.Guest.mk o9.1.view o9.1.queue o9.1.fresh o9.1.at_), ()), ((Ev.Guest.mk o10.1.view o10.1.queue o10.1.fresh o10.1.at_), ()), (o15.1, ()), (()), o17, ())
  else kx (v5, ((Ev.Guest.mk o9.1.view o9.1.queue o9.1.fresh o9.1.at_), ()), ((Ev.Guest.mk o10.1.view o10.1.queue o10.1.fresh o10.1.at_), ()), (o11.1, ()), (()), o13, ()))

noncomputable def F_guest_Tell_s0 {ρ : Type} (n : Nat) (kr : Unit → Option ρ) : Int → ((List Ev.Cnt)) → ((List Ev.Cnt) × (Ev.Guest × Unit) × (Ev.Guest × Unit) × (Int × Unit) × Unit × (List (List Ev.Cnt)) × Unit) → (((List Ev.Cnt) × (Ev.Guest × Unit) × (Ev.Guest × Unit) × (Int × Unit) × Unit × (List (List Ev.Cnt)) × Unit) → Option ρ) → Option ρ :=
  fun v8 x14 (v5, o9, o10, o11, o12, o13, _) rec =>  
  (guest_Tell_1 n (x14, (o11.1, ()), (()), o13, ())).bind fun (o15, o16, o17, _) => rec (v5, ((Ev.Guest.mk o9.1.view o9.1.queue o9.1.fresh o9.1.at_), ()), ((Ev.Guest.mk o10.1.view o10.1.queue o10.1.fresh o10.1.at_), ()), (o15.1, ()), (()), o17, ())

theorem R_guest_Tell_s0 {ρ : Type} (n : Nat) (kx : (List Ev.Cnt) × (Ev.Guest × Unit) × (Ev.Guest × Unit) × (Int × Unit) × Unit × (List (List Ev.Cnt)) × Unit → Option ρ) (kr : Unit → Option ρ) (l : List (List Ev.Cnt)) (fuel : Nat) (v5 : List Ev.Cnt) (o9 : Ev.Guest × Unit) (o10 : Ev.Guest × Unit) (o11 : Int × Unit) (o12 : Unit) (o13 : List (List Ev.Cnt)) (hl : l.length ≤ 9223372036854775807) (hf : l.length < fuel) :
    iterN (fun rc => guest_Tell_s0 n rc kx kr) fuel (v5, l, (l.length : Int), 0, o9, o10, o11, o12, o13, ()) = foldK (F_guest_Tell_s0 n kr) (fun (v5, o9, o10, o11, o12, o13, _) => kx (v5, ((Ev.Guest.mk o9.1.view o9.1.queue o9.1.fresh o9.1.at_), ()), ((Ev.Guest.mk o10.1.view o10.1.queue o10.1.fresh o10.1.at_), ()), (o11.1, ()), (()), o13, ())) 0 l (v5, o9, o10, o11, o12, o13, ()) :=
  range_listM l (fun i (v5, o9, o10, o11, o12, o13, _) => (v5, l, (l.length : Int), i, o9, o10, o11, o12, o13, ())) _ _ _ (fun rec i s => rfl) hl fuel (v5, o9, o10, o11, o12, o13, ()) hf

/-- guest.Tell -/
noncomputable def guest_Tell (n : Nat) : Ev.Guest × (List Ev.Cnt) × Unit → Option (Ev.Guest × Int × Unit) :=
  fun (a1, a2, _) => 
  (guest_Check n ((Ev.Guest.mk a1.view a1.queue a1.fresh a1.at_), ())).bind fun (y3, _) => 
  (bif (y3 : Int) != 0 then some ((Ev.Guest.mk 0 ([] : List (List Ev.Cnt)) false 0), y3, ())
  else 
  (bag_Check n (a2, ())).bind fun (y4, _) => 
  (bif (y4 : Int) != 0 then some ((Ev.Guest.mk 0 ([] : List (List Ev.Cnt)) false 0), y4, ())
  else 
  iterN (fun rc27 => guest_Tell_s0 n rc27 (fun (v18, o19, o20, o21, o22, o23, _) => 
  (bif (!o19.1.fresh) && (decide (((v18.length : Int) : Int) > 0)) then 
  (guest_Tell_1 n (v18, (o21.1, ()), (()), o23, ())).bind fun (o24, o25, o26, _) => 
  (bif decide ((o24.1 : Int) > 40) then some ((Ev.Guest.mk o19.1.view ([] : List (List Ev.Cnt)) true o19.1.at_), 0, ())
  else some ((Ev.Guest.mk o19.1.view o26 o19.1.fresh o19.1.at_), 0, ()))
  else 
  (bif decide ((o21.1 : Int) > 40) then some ((Ev.Guest.mk o19.1.view ([] : List (List Ev.Cnt)) true o19.1.at_), 0, ())
  else some ((Ev.Guest.mk o19.1.view o23 o19.1.fresh o19.1.at_), 0, ())))) (fun (_) => none)) (n) (a2, a1.queue, (a1.queue.length : Int), 0, ((Ev.Guest.mk a1.view a1.queue a1.fresh a1.at_), ()), ((Ev.Guest.mk 0 ([] : List (List Ev.Cnt)) false 0), ()), (0, ()), (()), ([] : List (List Ev.Cnt)), ())))

/-- espalierref.SameBag$1 -/
noncomputable def eR_SameBag_1 (n : Nat) : Ev.Cnt × Ev.Cnt × Unit → Option (Bool × Unit) :=
  fun (a1, a2, _) => 
  (bif (a1.n : Int) == a2.n then 
  (eR_CompareRows n (a1.r, a2.r, ())).bind fun (y3, _) => some ((y3 : Int) == 0, ())
  else some (false, ()))

/-- a round of a loop of slices.EqualFunc api.Bag,api.Bag,api.Count,api.Count  -/
noncomputable def slices_EqualFunc_api_Bag_api_Bag_C_C_eR_SameBag_1_s0 {ρ : Type} (n : Nat) (rec : (List Ev.Cnt) × (List Ev.Cnt) × Int × Int × Unit → Option ρ) (kx : Unit → Option ρ) (kr : Bool × Unit → Option ρ) : (List Ev.Cnt) × (List Ev.Cnt) × Int × Int × Unit → Option ρ :=
  fun (v3, v4, v5, v6, _) => 
  (bif decide ((v6 : Int) < v5) then 
  (ix v4 v6).bind fun x7 => 
  (ix v3 v6).bind fun x8 => 
  (eR_SameBag_1 n ((Ev.Cnt.mk x7.r x7.n), (Ev.Cnt.mk x8.r x8.n), ())).bind fun (y9, _) => 
  (bif !y9 then kr (false, ())
  else rec (v3, v4, v5, IntKind.wrap .i64 (v6 + 1), ()))
  else kx (()))

noncomputable def F_slices_EqualFunc_api_Bag_api_Bag_C_C_eR_SameBag_1_s0 {ρ : Type} (n : Nat) (kr : Bool × Unit → Option ρ) : Int → Ev.Cnt → ((List Ev.Cnt) × Unit) → (((List Ev.Cnt) × Unit) → Option ρ) → Option ρ :=
  fun v6 x7 (v3, _) rec =>  
  (ix v3 v6).bind fun x8 => 
  (eR_SameBag_1 n ((Ev.Cnt.mk x7.r x7.n), (Ev.Cnt.mk x8.r x8.n), ())).bind fun (y9, _) => 
  (bif !y9 then kr (false, ())
  else rec (v3, ()))

theorem R_slices_EqualFunc_api_Bag_api_Bag_C_C_eR_SameBag_1_s0 {ρ : Type} (n : Nat) (kx : Unit → Option ρ) (kr : Bool × Unit → Option ρ) (l : List Ev.Cnt) (fuel : Nat) (v3 : List Ev.Cnt) (hl : l.length ≤ 9223372036854775807) (hf : l.length < fuel) :
    iterN (fun rc => slices_EqualFunc_api_Bag_api_Bag_C_C_eR_SameBag_1_s0 n rc kx kr) fuel (v3, l, (l.length : Int), 0, ()) = foldK (F_slices_EqualFunc_api_Bag_api_Bag_C_C_eR_SameBag_1_s0 n kr) (fun (v3, _) => kx (())) 0 l (v3, ()) :=
  range_listM l (fun i (v3, _) => (v3, l, (l.length : Int), i, ())) _ _ _ (fun rec i s => rfl) hl fuel (v3, ()) hf

/-- slices.EqualFunc api.Bag,api.Bag,api.Count,api.Count  -/
noncomputable def slices_EqualFunc_api_Bag_api_Bag_C_C_eR_SameBag_1 (n : Nat) : (List Ev.Cnt) × (List Ev.Cnt) × Unit → Option (Bool × Unit) :=
  fun (a1, a2, _) => 
  (bif ((a1.length : Int) : Int) != (a2.length : Int) then some (false, ())
  else 
  iterN (fun rc11 => slices_EqualFunc_api_Bag_api_Bag_C_C_eR_SameBag_1_s0 n rc11 (fun (_) => some (true, ())) (fun (v10, _) => some (v10, ()))) (n) (a2, a1, (a1.length : Int), 0, ()))

/-- espalierref.SameBag -/
noncomputable def eR_SameBag (n : Nat) : (List Ev.Cnt) × (List Ev.Cnt) × Unit → Option (Bool × Unit) :=
  fun (a1, a2, _) => 
  (slices_EqualFunc_api_Bag_api_Bag_C_C_eR_SameBag_1 n (a1, a2, ())).bind fun (y3, _) => some (y3, ())

/-- espalierlaw.waits -/
noncomputable def eL_waits (n : Nat) : Unit → Option (Bool × Unit) :=
  fun (_) => 
  (eL_num (1, ())).bind fun (y1, _) => 
  (guest_Tell n ((Ev.Guest.mk 0 ([] : List (List Ev.Cnt)) false 0), ([(Ev.Cnt.mk ([(Ev.Val.mk y1.kind y1.n y1.s y1.l)] : List Ev.Val) 1)] : List Ev.Cnt), ())).bind fun (y2, y3, _) => 
  (guest_Tell n ((Ev.Guest.mk y2.view y2.queue y2.fresh y2.at_), ([(Ev.Cnt.mk ([(Ev.Val.mk y1.kind y1.n y1.s y1.l)] : List Ev.Val) 1)] : List Ev.Cnt), ())).bind fun (y4, y5, _) => 
  (guest_Take n ((Ev.Guest.mk y4.view y4.queue y4.fresh y4.at_), ([] : List Ev.Cnt), 3, ())).bind fun (y6, y7, y8, y9, _) => 
  (bif (((((y3 : Int) == 0) && ((y5 : Int) == 0)) && ((y9 : Int) == 0)) && (!y8)) && ((y6.at_ : Int) == 3) then 
  (eL_num (1, ())).bind fun (y10, _) => 
  (eR_SameBag n (y7, ([(Ev.Cnt.mk ([(Ev.Val.mk y10.kind y10.n y10.s y10.l)] : List Ev.Val) 2)] : List Ev.Cnt), ())).bind fun (y11, _) => some (y11, ())
  else some (false, ()))

/-- a round of a loop of slices.EqualFunc   api.Bag,  api.Bag,api.Bag,api.Bag  -/
noncomputable def slices_EqualFunc_api_Bag_api_Bag_api_Bag_api_Bag_eR_SameBag_s0 {ρ : Type} (n : Nat) (rec : (List (List Ev.Cnt)) × (List (List Ev.Cnt)) × Int × Int × Unit → Option ρ) (kx : Unit → Option ρ) (kr : Bool × Unit → Option ρ) : (List (List Ev.Cnt)) × (List (List Ev.Cnt)) × Int × Int × Unit → Option ρ :=
  fun (v3, v4, v5, v6, _) => 
  (bif decide ((v6 : Int) < v5) then 
  (ix v4 v6).bind fun x7 => 
  (ix v3 v6).bind fun x8 => 
  (eR_SameBag n (x7, x8, ())).bind fun (y9, _) => 
  (bif !y9 then kr (false, ())
  else rec (v3, v4, v5, IntKind.wrap .i64 (v6 + 1), ()))
  else kx (()))

noncomputable def F_slices_EqualFunc_api_Bag_api_Bag_api_Bag_api_Bag_eR_SameBag_s0 {ρ : Type} (n : Nat) (kr : Bool × Unit → Option ρ) : Int → ((List Ev.Cnt)) → ((List (List Ev.Cnt)) × Unit) → (((List (List Ev.Cnt)) × Unit) → Option ρ) → Option ρ :=
  fun v6 x7 (v3, _) rec =>  
  (ix v3 v6).bind fun x8 => 
  (eR_SameBag n (x7, x8, ())).bind fun (y9, _) => 
  (bif !y9 then kr (false, ())
  else rec (v3, ()))

theorem R_slices_EqualFunc_api_Bag_api_Bag_api_Bag_api_Bag_eR_SameBag_s0 {ρ : Type} (n : Nat) (kx : Unit → Option ρ) (kr : Bool × Unit → Option ρ) (l : List (List Ev.Cnt)) (fuel : Nat) (v3 : List (List Ev.Cnt)) (hl : l.length ≤ 9223372036854775807) (hf : l.length < fuel) :
    iterN (fun rc => slices_EqualFunc_api_Bag_api_Bag_api_Bag_api_Bag_eR_SameBag_s0 n rc kx kr) fuel (v3, l, (l.length : Int), 0, ()) = foldK (F_slices_EqualFunc_api_Bag_api_Bag_api_Bag_api_Bag_eR_SameBag_s0 n kr) (fun (v3, _) => kx (())) 0 l (v3, ()) :=
  range_listM l (fun i (v3, _) => (v3, l, (l.length : Int), i, ())) _ _ _ (fun rec i s => rfl) hl fuel (v3, ()) hf

/-- slices.EqualFunc   api.Bag,  api.Bag,api.Bag,api.Bag  -/
noncomputable def slices_EqualFunc_api_Bag_api_Bag_api_Bag_api_Bag_eR_SameBag (n : Nat) : (List (List Ev.Cnt)) × (List (List Ev.Cnt)) × Unit → Option (Bool × Unit) :=
  fun (a1, a2, _) => 
  (bif ((a1.length : Int) : Int) != (a2.length : Int) then some (false, ())
  else 
  iterN (fun rc11 => slices_EqualFunc_api_Bag_api_Bag_api_Bag_api_Bag_eR_SameBag_s0 n rc11 (fun (_) => some (true, ())) (fun (v10, _) => some (v10, ()))) (n) (a2, a1, (a1.length : Int), 0, ()))

/-- espalierlaw.sameGuest -/
noncomputable def eL_sameGuest (n : Nat) : Ev.Guest × Ev.Guest × Unit → Option (Bool × Unit) :=
  fun (a1, a2, _) => 
  (bif (((a1.view : Int) == a2.view) && ((a1.at_ : Int) == a2.at_)) && (a1.fresh == a2.fresh) then 
  (slices_EqualFunc_api_Bag_api_Bag_api_Bag_api_Bag_eR_SameBag n (a1.queue, a2.queue, ())).bind fun (y3, _) => some (y3, ())
  else some (false, ()))

/-- a round of a loop of espalierlaw.GuestTake -/
noncomputable def eL_GuestTake_s0 {ρ : Type} (n : Nat) (rec : (List Ev.Cnt) × Int × (List Ev.Cnt) × Bool × Int × Int × (List (List Ev.Cnt)) × Int × Int × (Ev.Guest × Unit) × (Ev.Guest × Unit) × (List Ev.Cnt) × Unit → Option ρ) (kx : (List Ev.Cnt) × Int × (List Ev.Cnt) × Bool × Int × Int × (Ev.Guest × Unit) × (Ev.Guest × Unit) × (List Ev.Cnt) × Unit → Option ρ) (kr : Unit → Option ρ) : (List Ev.Cnt) × Int × (List Ev.Cnt) × Bool × Int × Int × (List (List Ev.Cnt)) × Int × Int × (Ev.Guest × Unit) × (Ev.Guest × Unit) × (List Ev.Cnt) × Unit → Option ρ :=
  fun (v10, v11, v12, v13, v14, v15, v16, v17, v18, o19, o20, o21, _) => 
  (bif decide ((v18 : Int) < v17) then 
  (ix v16 v18).bind fun x22 => 
  ck (room (o21 ++ x22).length 32) (rec (v10, v11, v12, v13, v14, v15, v16, v17, IntKind.wrap .i64 (v18 + 1), ((Ev.Guest.mk o19.1.view o19.1.queue o19.1.fresh o19.1.at_), ()), ((Ev.Guest.mk o20.1.view o20.1.queue o20.1.fresh o20.1.at_), ()), o21 ++ x22, ()))
  else kx (v10, v11, v12, v13, v14, v15, ((Ev.Guest.mk o19.1.view o19.1.queue o19.1.fresh o19.1.at_), ()), ((Ev.Guest.mk o20.1.view o20.1.queue o20.1.fresh o20.1.at_), ()), o21, ()))

noncomputable def F_eL_GuestTake_s0 {ρ : Type} (n : Nat) (kr : Unit → Option ρ) : Int → ((List Ev.Cnt)) → ((List Ev.Cnt) × Int × (List Ev.Cnt) × Bool × Int × Int × (Ev.Guest × Unit) × (Ev.Guest × Unit) × (List Ev.Cnt) × Unit) → (((List Ev.Cnt) × Int × (List Ev.Cnt) × Bool × Int × Int × (Ev.Guest × Unit) × (Ev.Guest × Unit) × (List Ev.Cnt) × Unit) → Option ρ) → Option ρ :=
  fun v18 x22 (v10, v11, v12, v13, v14, v15, o19, o20, o21, _) rec =>  
  ck (room (o21 ++ x22).length 32) (rec (v10, v11, v12, v13, v14, v15, ((Ev.Guest.mk o19.1.view o19.1.queue o19.1.fresh o19.1.at_), ()), ((Ev.Guest.mk o20.1.view o20.1.queue o20.1.fresh o20.1.at_), ()), o21 ++ x22, ()))

theorem R_eL_GuestTake_s0 {ρ : Type} (n : Nat) (kx : (List Ev.Cnt) × Int × (List Ev.Cnt) × Bool × Int × Int × (Ev.Guest × Unit) × (Ev.Guest × Unit) × (List Ev.Cnt) × Unit → Option ρ) (kr : Unit → Option ρ) (l : List (List Ev.Cnt)) (fuel : Nat) (v10 : List Ev.Cnt) (v11 : Int) (v12 : List Ev.Cnt) (v13 : Bool) (v14 : Int) (v15 : Int) (o19 : Ev.Guest × Unit) (o20 : Ev.Guest × Unit) (o21 : List Ev.Cnt) (hl : l.length ≤ 9223372036854775807) (hf : l.length < fuel) :
    iterN (fun rc => eL_GuestTake_s0 n rc kx kr) fuel (v10, v11, v12, v13, v14, v15, l, (l.length : Int), 0, o19, o20, o21, ()) = foldK (F_eL_GuestTake_s0 n kr) (fun (v10, v11, v12, v13, v14, v15, o19, o20, o21, _) => kx (v10, v11, v12, v13, v14, v15, ((Ev.Guest.mk o19.1.view o19.1.queue o19.1.fresh o19.1.at_), ()), ((Ev.Guest.mk o20.1.view o20.1.queue o20.1.fresh o20.1.at_), ()), o21, ())) 0 l (v10, v11, v12, v13, v14, v15, o19, o20, o21, ()) :=
  range_listM l (fun i (v10, v11, v12, v13, v14, v15, o19, o20, o21, _) => (v10, v11, v12, v13, v14, v15, l, (l.length : Int), i, o19, o20, o21, ())) _ _ _ (fun rec i s => rfl) hl fuel (v10, v11, v12, v13, v14, v15, o19, o20, o21, ()) hf

/-- espalierlaw.GuestTake -/
noncomputable def eL_GuestTake (n : Nat) : Ev.Guest × (List Ev.Cnt) × Int × Unit → Option (Bool × Unit) :=
  fun (a1, a2, a3, _) => 
  (guest_Take n ((Ev.Guest.mk a1.view a1.queue a1.fresh a1.at_), a2, a3, ())).bind fun (y4, y5, y6, y7, _) => 
  (eL_checkGuest n ((Ev.Guest.mk a1.view a1.queue a1.fresh a1.at_), ())).bind fun (y8, _) => 
  (bif (y8 : Int) == 0 then 
  (eR_CheckBag n (a2, ())).bind fun (y9, _) => 
  (bif ((y9 : Int) == 0) && (decide ((a3 : Int) < a1.at_)) then 
  iterN (fun rc56 => eL_GuestTake_s0 n rc56 (fun (v23, v24, v25, v26, v27, v28, o29, o30, o31, _) => 
  (bif o29.1.fresh then 
  (eR_BagOf n (v23, ())).bind fun (y32, _) => 
  (bif (v28 : Int) == 0 then 
  (eR_CheckBag n (y32, ())).bind fun (y33, _) => 
  (eL_waits n (())).bind fun (y34, _) => 
  (bif (!y34) || ((y33 : Int) != 0) then 
  (eL_waits n (())).bind fun (y35, _) => 
  (bif y35 && ((v27 : Int) == y33) then 
  (eL_sameGuest n ((Ev.Guest.mk o30.1.view o30.1.queue o30.1.fresh o30.1.at_), (Ev.Guest.mk 0 ([] : List (List Ev.Cnt)) false 0), ())).bind fun (y36, _) => some ((y36 && (((v25.length : Int) : Int) == 0)) && (!v26), ())
  else some (false, ()))
  else 
  (bif ((v27 : Int) == 0) && (v26 == o29.1.fresh) then 
  (eR_SameBag n (v25, y32, ())).bind fun (y37, _) => 
  (bif y37 then 
  (eL_sameGuest n ((Ev.Guest.mk o30.1.view o30.1.queue o30.1.fresh o30.1.at_), (Ev.Guest.mk o29.1.view ([] : List (List Ev.Cnt)) false v24), ())).bind fun (y38, _) => some (y38, ())
  else some (false, ()))
  else some (false, ())))
  else 
  (eL_waits n (())).bind fun (y39, _) => 
  (bif (!y39) || ((v28 : Int) != 0) then 
  (eL_waits n (())).bind fun (y40, _) => 
  (bif y40 && ((v27 : Int) == v28) then 
  (eL_sameGuest n ((Ev.Guest.mk o30.1.view o30.1.queue o30.1.fresh o30.1.at_), (Ev.Guest.mk 0 ([] : List (List Ev.Cnt)) false 0), ())).bind fun (y41, _) => some ((y41 && (((v25.length : Int) : Int) == 0)) && (!v26), ())
  else some (false, ()))
  else 
  (bif ((v27 : Int) == 0) && (v26 == o29.1.fresh) then 
  (eR_SameBag n (v25, y32, ())).bind fun (y42, _) => 
  (bif y42 then 
  (eL_sameGuest n ((Ev.Guest.mk o30.1.view o30.1.queue o30.1.fresh o30.1.at_), (Ev.Guest.mk o29.1.view ([] : List (List Ev.Cnt)) false v24), ())).bind fun (y43, _) => some (y43, ())
  else some (false, ()))
  else some (false, ()))))
  else 
  (eR_BagOf n (o31, ())).bind fun (y44, _) => 
  (bif (v28 : Int) == 0 then 
  (eR_CheckBag n (y44, ())).bind fun (y45, _) => 
  (eL_waits n (())).bind fun (y46, _) => 
  (bif (!y46) || ((y45 : Int) != 0) then 
  (eL_waits n (())).bind fun (y47, _) => 
  (bif y47 && ((v27 : Int) == y45) then 
  (eL_sameGuest n ((Ev.Guest.mk o30.1.view o30.1.queue o30.1.fresh o30.1.at_), (Ev.Guest.mk 0 ([] : List (List Ev.Cnt)) false 0), ())).bind fun (y48, _) => some ((y48 && (((v25.length : Int) : Int) == 0)) && (!v26), ())
  else some (false, ()))
  else 
  (bif ((v27 : Int) == 0) && (v26 == o29.1.fresh) then 
  (eR_SameBag n (v25, y44, ())).bind fun (y49, _) => 
  (bif y49 then 
  (eL_sameGuest n ((Ev.Guest.mk o30.1.view o30.1.queue o30.1.fresh o30.1.at_), (Ev.Guest.mk o29.1.view ([] : List (List Ev.Cnt)) false v24), ())).bind fun (y50, _) => some (y50, ())
  else some (false, ()))
  else some (false, ())))
  else 
  (eL_waits n (())).bind fun (y51, _) => 
  (bif (!y51) || ((v28 : Int) != 0) then 
  (eL_waits n (())).bind fun (y52, _) => 
  (bif y52 && ((v27 : Int) == v28) then 
  (eL_sameGuest n ((Ev.Guest.mk o30.1.view o30.1.queue o30.1.fresh o30.1.at_), (Ev.Guest.mk 0 ([] : List (List Ev.Cnt)) false 0), ())).bind fun (y53, _) => some ((y53 && (((v25.length : Int) : Int) == 0)) && (!v26), ())
  else some (false, ()))
  else 
  (bif ((v27 : Int) == 0) && (v26 == o29.1.fresh) then 
  (eR_SameBag n (v25, y44, ())).bind fun (y54, _) => 
  (bif y54 then 
  (eL_sameGuest n ((Ev.Guest.mk o30.1.view o30.1.queue o30.1.fresh o30.1.at_), (Ev.Guest.mk o29.1.view ([] : List (List Ev.Cnt)) false v24), ())).bind fun (y55, _) => some (y55, ())
  else some (false, ()))
  else some (false, ())))))) (fun (_) => none)) (n) (a2, a3, y5, y6, y7, 9, a1.queue, (a1.queue.length : Int), 0, ((Ev.Guest.mk a1.view a1.queue a1.fresh a1.at_), ()), ((Ev.Guest.mk y4.view y4.queue y4.fresh y4.at_), ()), ([] : List Ev.Cnt), ())
  else 
  iterN (fun rc90 => eL_GuestTake_s0 n rc90 (fun (v57, v58, v59, v60, v61, v62, o63, o64, o65, _) => 
  (bif o63.1.fresh then 
  (eR_BagOf n (v57, ())).bind fun (y66, _) => 
  (bif (v62 : Int) == 0 then 
  (eR_CheckBag n (y66, ())).bind fun (y67, _) => 
  (eL_waits n (())).bind fun (y68, _) => 
  (bif (!y68) || ((y67 : Int) != 0) then 
  (eL_waits n (())).bind fun (y69, _) => 
  (bif y69 && ((v61 : Int) == y67) then 
  (eL_sameGuest n ((Ev.Guest.mk o64.1.view o64.1.queue o64.1.fresh o64.1.at_), (Ev.Guest.mk 0 ([] : List (List Ev.Cnt)) false 0), ())).bind fun (y70, _) => some ((y70 && (((v59.length : Int) : Int) == 0)) && (!v60), ())
  else some (false, ()))
  else 
  (bif ((v61 : Int) == 0) && (v60 == o63.1.fresh) then 
  (eR_SameBag n (v59, y66, ())).bind fun (y71, _) => 
  (bif y71 then 
  (eL_sameGuest n ((Ev.Guest.mk o64.1.view o64.1.queue o64.1.fresh o64.1.at_), (Ev.Guest.mk o63.1.view ([] : List (List Ev.Cnt)) false v58), ())).bind fun (y72, _) => some (y72, ())
  else some (false, ()))
  else some (false, ())))
  else 
  (eL_waits n (())).bind fun (y73, _) => 
  (bif (!y73) || ((v62 : Int) != 0) then 
  (eL_waits n (())).bind fun (y74, _) => 
  (bif y74 && ((v61 : Int) == v62) then 
  (eL_sameGuest n ((Ev.Guest.mk o64.1.view o64.1.queue o64.1.fresh o64.1.at_), (Ev.Guest.mk 0 ([] : List (List Ev.Cnt)) false 0), ())).bind fun (y75, _) => some ((y75 && (((v59.length : Int) : Int) == 0)) && (!v60), ())
  else some (false, ()))
  else 
  (bif ((v61 : Int) == 0) && (v60 == o63.1.fresh) then 
  (eR_SameBag n (v59, y66, ())).bind fun (y76, _) => 
  (bif y76 then 
  (eL_sameGuest n ((Ev.Guest.mk o64.1.view o64.1.queue o64.1.fresh o64.1.at_), (Ev.Guest.mk o63.1.view ([] : List (List Ev.Cnt)) false v58), ())).bind fun (y77, _) => some (y77, ())
  else some (false, ()))
  else some (false, ()))))
  else 
  (eR_BagOf n (o65, ())).bind fun (y78, _) => 
  (bif (v62 : Int) == 0 then 
  (eR_CheckBag n (y78, ())).bind fun (y79, _) => 
  (eL_waits n (())).bind fun (y80, _) => 
  (bif (!y80) || ((y79 : Int) != 0) then 
  (eL_waits n (())).bind fun (y81, _) => 
  (bif y81 && ((v61 : Int) == y79) then 
  (eL_sameGuest n ((Ev.Guest.mk o64.1.view o64.1.queue o64.1.fresh o64.1.at_), (Ev.Guest.mk 0 ([] : List (List Ev.Cnt)) false 0), ())).bind fun (y82, _) => some ((y82 && (((v59.length : Int) : Int) == 0)) && (!v60), ())
  else some (false, ()))
  else 
  (bif ((v61 : Int) == 0) && (v60 == o63.1.fresh) then 
  (eR_SameBag n (v59, y78, ())).bind fun (y83, _) => 
  (bif y83 then 
  (eL_sameGuest n ((Ev.Guest.mk o64.1.view o64.1.queue o64.1.fresh o64.1.at_), (Ev.Guest.mk o63.1.view ([] : List (List Ev.Cnt)) false v58), ())).bind fun (y84, _) => some (y84, ())
  else some (false, ()))
  else some (false, ())))
  else 
  (eL_waits n (())).bind fun (y85, _) => 
  (bif (!y85) || ((v62 : Int) != 0) then 
  (eL_waits n (())).bind fun (y86, _) => 
  (bif y86 && ((v61 : Int) == v62) then 
  (eL_sameGuest n ((Ev.Guest.mk o64.1.view o64.1.queue o64.1.fresh o64.1.at_), (Ev.Guest.mk 0 ([] : List (List Ev.Cnt)) false 0), ())).bind fun (y87, _) => some ((y87 && (((v59.length : Int) : Int) == 0)) && (!v60), ())
  else some (false, ()))
  else 
  (bif ((v61 : Int) == 0) && (v60 == o63.1.fresh) then 
  (eR_SameBag n (v59, y78, ())).bind fun (y88, _) => 
  (bif y88 then 
  (eL_sameGuest n ((Ev.Guest.mk o64.1.view o64.1.queue o64.1.fresh o64.1.at_), (Ev.Guest.mk o63.1.view ([] : List (List Ev.Cnt)) false v58), ())).bind fun (y89, _) => some (y89, ())
  else some (false, ()))
  else some (false, ())))))) (fun (_) => none)) (n) (a2, a3, y5, y6, y7, y9, a1.queue, (a1.queue.length : Int), 0, ((Ev.Guest.mk a1.view a1.queue a1.fresh a1.at_), ()), ((Ev.Guest.mk y4.view y4.queue y4.fresh y4.at_), ()), ([] : List Ev.Cnt), ()))
  else 
  (bif ((y8 : Int) == 0) && (decide ((a3 : Int) < a1.at_)) then 
  iterN (fun rc124 => eL_GuestTake_s0 n rc124 (fun (v91, v92, v93, v94, v95, v96, o97, o98, o99, _) => 
  (bif o97.1.fresh then 
  (eR_BagOf n (v91, ())).bind fun (y100, _) => 
  (bif (v96 : Int) == 0 then 
  (eR_CheckBag n (y100, ())).bind fun (y101, _) => 
  (eL_waits n (())).bind fun (y102, _) => 
  (bif (!y102) || ((y101 : Int) != 0) then 
  (eL_waits n (())).bind fun (y103, _) => 
  (bif y103 && ((v95 : Int) == y101) then 
  (eL_sameGuest n ((Ev.Guest.mk o98.1.view o98.1.queue o98.1.fresh o98.1.at_), (Ev.Guest.mk 0 ([] : List (List Ev.Cnt)) false 0), ())).bind fun (y104, _) => some ((y104 && (((v93.length : Int) : Int) == 0)) && (!v94), ())
  else some (false, ()))
  else 
  (bif ((v95 : Int) == 0) && (v94 == o97.1.fresh) then 
  (eR_SameBag n (v93, y100, ())).bind fun (y105, _) => 
  (bif y105 then 
  (eL_sameGuest n ((Ev.Guest.mk o98.1.view o98.1.queue o98.1.fresh o98.1.at_), (Ev.Guest.mk o97.1.view ([] : List (List Ev.Cnt)) false v92), ())).bind fun (y106, _) => some (y106, ())
  else some (false, ()))
  else some (false, ())))
  else 
  (eL_waits n (())).bind fun (y107, _) => 
  (bif (!y107) || ((v96 : Int) != 0) then 
  (eL_waits n (())).bind fun (y108, _) => 
  (bif y108 && ((v95 : Int) == v96) then 
  (eL_sameGuest n ((Ev.Guest.mk o98.1.view o98.1.queue o98.1.fresh o98.1.at_), (Ev.Guest.mk 0 ([] : List (List Ev.Cnt)) false 0), ())).bind fun (y109, _) => some ((y109 && (((v93.length : Int) : Int) == 0)) && (!v94), ())
  else some (false, ()))
  else 
  (bif ((v95 : Int) == 0) && (v94 == o97.1.fresh) then 
  (eR_SameBag n (v93, y100, ())).bind fun (y110, _) => 
  (bif y110 then 
  (eL_sameGuest n ((Ev.Guest.mk o98.1.view o98.1.queue o98.1.fresh o98.1.at_), (Ev.Guest.mk o97.1.view ([] : List (List Ev.Cnt)) false v92), ())).bind fun (y111, _) => some (y111, ())
  else some (false, ()))
  else some (false, ()))))
  else 
  (eR_BagOf n (o99, ())).bind fun (y112, _) => 
  (bif (v96 : Int) == 0 then 
  (eR_CheckBag n (y112, ())).bind fun (y113, _) => 
  (eL_waits n (())).bind fun (y114, _) => 
  (bif (!y114) || ((y113 : Int) != 0) then 
  (eL_waits n (())).bind fun (y115, _) => 
  (bif y115 && ((v95 : Int) == y113) then 
  (eL_sameGuest n ((Ev.Guest.mk o98.1.view o98.1.queue o98.1.fresh o98.1.at_), (Ev.Guest.mk 0 ([] : List (List Ev.Cnt)) false 0), ())).bind fun (y116, _) => some ((y116 && (((v93.length : Int) : Int) == 0)) && (!v94), ())
  else some (false, ()))
  else 
  (bif ((v95 : Int) == 0) && (v94 == o97.1.fresh) then 
  (eR_SameBag n (v93, y112, ())).bind fun (y117, _) => 
  (bif y117 then 
  (eL_sameGuest n ((Ev.Guest.mk o98.1.view o98.1.queue o98.1.fresh o98.1.at_), (Ev.Guest.mk o97.1.view ([] : List (List Ev.Cnt)) false v92), ())).bind fun (y118, _) => some (y118, ())
  else some (false, ()))
  else some (false, ())))
  else 
  (eL_waits n (())).bind fun (y119, _) => 
  (bif (!y119) || ((v96 : Int) != 0) then 
  (eL_waits n (())).bind fun (y120, _) => 
  (bif y120 && ((v95 : Int) == v96) then 
  (eL_sameGuest n ((Ev.Guest.mk o98.1.view o98.1.queue o98.1.fresh o98.1.at_), (Ev.Guest.mk 0 ([] : List (List Ev.Cnt)) false 0), ())).bind fun (y121, _) => some ((y121 && (((v93.length : Int) : Int) == 0)) && (!v94), ())
  else some (false, ()))
  else 
  (bif ((v95 : Int) == 0) && (v94 == o97.1.fresh) then 
  (eR_SameBag n (v93, y112, ())).bind fun (y122, _) => 
  (bif y122 then 
  (eL_sameGuest n ((Ev.Guest.mk o98.1.view o98.1.queue o98.1.fresh o98.1.at_), (Ev.Guest.mk o97.1.view ([] : List (List Ev.Cnt)) false v92), ())).bind fun (y123, _) => some (y123, ())
  else some (false, ()))
  else some (false, ())))))) (fun (_) => none)) (n) (a2, a3, y5, y6, y7, 9, a1.queue, (a1.queue.length : Int), 0, ((Ev.Guest.mk a1.view a1.queue a1.fresh a1.at_), ()), ((Ev.Guest.mk y4.view y4.queue y4.fresh y4.at_), ()), ([] : List Ev.Cnt), ())
  else 
  iterN (fun rc158 => eL_GuestTake_s0 n rc158 (fun (v125, v126, v127, v128, v129, v130, o131, o132, o133, _) => 
  (bif o131.1.fresh then 
  (eR_BagOf n (v125, ())).bind fun (y134, _) => 
  (bif (v130 : Int) == 0 then 
  (eR_CheckBag n (y134, ())).bind fun (y135, _) => 
  (eL_waits n (())).bind fun (y136, _) => 
  (bif (!y136) || ((y135 : Int) != 0) then 
  (eL_waits n (())).bind fun (y137, _) => 
  (bif y137 && ((v129 : Int) == y135) then 
  (eL_sameGuest n ((Ev.Guest.mk o132.1.view o132.1.queue o132.1.fresh o132.1.at_), (Ev.Guest.mk 0 ([] : List (List Ev.Cnt)) false 0), ())).bind fun (y138, _) => some ((y138 && (((v127.length : Int) : Int) == 0)) && (!v128), ())
  else some (false, ()))
  else 
  (bif ((v129 : Int) == 0) && (v128 == o131.1.fresh) then 
  (eR_SameBag n (v127, y134, ())).bind fun (y139, _) => 
  (bif y139 then 
  (eL_sameGuest n ((Ev.Guest.mk o132.1.view o132.1.queue o132.1.fresh o132.1.at_), (Ev.Guest.mk o131.1.view ([] : List (List Ev.Cnt)) false v126), ())).bind fun (y140, _) => some (y140, ())
  else some (false, ()))
  else some (false, ())))
  else 
  (eL_waits n (())).bind fun (y141, _) => 
  (bif (!y141) || ((v130 : Int) != 0) then 
  (eL_waits n (())).bind fun (y142, _) => 
  (bif y142 && ((v129 : Int) == v130) then 
  (eL_sameGuest n ((Ev.Guest.mk o132.1.view o132.1.queue o132.1.fresh o132.1.at_), (Ev.Guest.mk 0 ([] : List (List Ev.Cnt)) false 0), ())).bind fun (y143, _) => some ((y143 && (((v127.length : Int) : Int) == 0)) && (!v128), ())
  else some (false, ()))
  else 
  (bif ((v129 : Int) == 0) && (v128 == o131.1.fresh) then 
  (eR_SameBag n (v127, y134, ())).bind fun (y144, _) => 
  (bif y144 then 
  (eL_sameGuest n ((Ev.Guest.mk o132.1.view o132.1.queue o132.1.fresh o132.1.at_), (Ev.Guest.mk o131.1.view ([] : List (List Ev.Cnt)) false v126), ())).bind fun (y145, _) => some (y145, ())
  else some (false, ()))
  else some (false, ()))))
  else 
  (eR_BagOf n (o133, ())).bind fun (y146, _) => 
  (bif (v130 : Int) == 0 then 
  (eR_CheckBag n (y146, ())).bind fun (y147, _) => 
  (eL_waits n (())).bind fun (y148, _) => 
  (bif (!y148) || ((y147 : Int) != 0) then 
  (eL_waits n (())).bind fun (y149, _) => 
  (bif y149 && ((v129 : Int) == y147) then 
  (eL_sameGuest n ((Ev.Guest.mk o132.1.view o132.1.queue o132.1.fresh o132.1.at_), (Ev.Guest.mk 0 ([] : List (List Ev.Cnt)) false 0), ())).bind fun (y150, _) => some ((y150 && (((v127.length : Int) : Int) == 0)) && (!v128), ())
  else some (false, ()))
  else 
  (bif ((v129 : Int) == 0) && (v128 == o131.1.fresh) then 
  (eR_SameBag n (v127, y146, ())).bind fun (y151, _) => 
  (bif y151 then 
  (eL_sameGuest n ((Ev.Guest.mk o132.1.view o132.1.queue o132.1.fresh o132.1.at_), (Ev.Guest.mk o131.1.view ([] : List (List Ev.Cnt)) false v126), ())).bind fun (y152, _) => some (y152, ())
  else some (false, ()))
  else some (false, ())))
  else 
  (eL_waits n (())).bind fun (y153, _) => 
  (bif (!y153) || ((v130 : Int) != 0) then 
  (eL_waits n (())).bind fun (y154, _) => 
  (bif y154 && ((v129 : Int) == v130) then 
  (eL_sameGuest n ((Ev.Guest.mk o132.1.view o132.1.queue o132.1.fresh o132.1.at_), (Ev.Guest.mk 0 ([] : List (List Ev.Cnt)) false 0), ())).bind fun (y155, _) => some ((y155 && (((v127.length : Int) : Int) == 0)) && (!v128), ())
  else some (false, ()))
  else 
  (bif ((v129 : Int) == 0) && (v128 == o131.1.fresh) then 
  (eR_SameBag n (v127, y146, ())).bind fun (y156, _) => 
  (bif y156 then 
  (eL_sameGuest n ((Ev.Guest.mk o132.1.view o132.1.queue o132.1.fresh o132.1.at_), (Ev.Guest.mk o131.1.view ([] : List (List Ev.Cnt)) false v126), ())).bind fun (y157, _) => some (y157, ())
  else some (false, ()))
  else some (false, ())))))) (fun (_) => none)) (n) (a2, a3, y5, y6, y7, y8, a1.queue, (a1.queue.length : Int), 0, ((Ev.Guest.mk a1.view a1.queue a1.fresh a1.at_), ()), ((Ev.Guest.mk y4.view y4.queue y4.fresh y4.at_), ()), ([] : List Ev.Cnt), ())))

end Pure

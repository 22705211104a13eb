/- Plain functions that compute what functions of the program compute (written by gen.py). -/
import Derived.Test.YtnfoajgolcenlaaDoorEvLib
import Derived.Test.YtnfoajgolcenlaaDoorPRange
namespace Pure
open Esp Ev Go
set_option linter.unusedSimpArgs false
set_option linter.unusedVariables false

/-- a round of a loop of graph.Name -/
noncomputable def graph_Name_s0 {ρ : Type} (n : Nat) (rec : ByteArray × Int × Int × Unit → Option ρ) (kx : Unit → Option ρ) (kr : Bool × Unit → Option ρ) : ByteArray × Int × Int × Unit → Option ρ :=
  fun (v2, v3, v4, _) => 
  (bif decide ((v4 : Int) < v3) then 
  (sat v2 v4).bind fun c5 => 
  (bif (!((((decide ((c5 : Int) ≥ 97)) && (decide ((c5 : Int) ≤ 122))) || ((decide ((c5 : Int) ≥ 65)) && (decide ((c5 : Int) ≤ 90)))) || ((c5 : Int) == 95))) && ((((v4 : Int) == 0) || (decide ((c5 : Int) < 48))) || (decide ((c5 : Int) > 57))) then kr (false, ())
  else rec (v2, v3, IntKind.wrap .i64 (v4 + 1), ()))
  else kx (()))

noncomputable def F_graph_Name_s0 {ρ : Type} (n : Nat) (kr : Bool × Unit → Option ρ) : Int → Int → Unit → (Unit → Option ρ) → Option ρ :=
  fun v4 c5 (_) rec =>  
  (bif (!((((decide ((c5 : Int) ≥ 97)) && (decide ((c5 : Int) ≤ 122))) || ((decide ((c5 : Int) ≥ 65)) && (decide ((c5 : Int) ≤ 90)))) || ((c5 : Int) == 95))) && ((((v4 : Int) == 0) || (decide ((c5 : Int) < 48))) || (decide ((c5 : Int) > 57))) then kr (false, ())
  else rec (()))

theorem R_graph_Name_s0 {ρ : Type} (n : Nat) (kx : Unit → Option ρ) (kr : Bool × Unit → Option ρ) (l : ByteArray) (fuel : Nat) (hl : l.size ≤ 4611686018427387904) (hf : l.size < fuel) :
    iterN (fun rc => graph_Name_s0 n rc kx kr) fuel (l, (l.size : Int), 0, ()) = foldK (F_graph_Name_s0 n kr) (fun (_) => kx (())) 0 (bi l.data.toList) (()) :=
  range_str l (fun i (_) => (l, (l.size : Int), i, ())) _ _ _ (fun rec i s => rfl) hl fuel (()) hf

/-- graph.Name -/
noncomputable def graph_Name (n : Nat) : ByteArray × Unit → Option (Bool × Unit) :=
  fun (a1, _) => 
  (bif (seq a1 (⟨#[]⟩ : ByteArray)) || (decide (((a1.size : Int) : Int) > 12)) then some (false, ())
  else 
  iterN (fun rc7 => graph_Name_s0 n rc7 (fun (_) => some (true, ())) (fun (v6, _) => some (v6, ()))) (n) (a1, (a1.size : Int), 0, ()))

/-- grant.Check$1 -/
noncomputable def grant_Check_1 : Ev.Grant × (Ev.Grant × Unit) × Unit → Option (Bool × (Ev.Grant × Unit) × Unit) :=
  fun (a1, o2, _) => some (seq a1.who o2.1.who, ((Ev.Grant.mk o2.1.who o2.1.labels), ()), ())

/-- a round of a loop of slices.IndexFunc   api.Grant,api.Grant  -/
noncomputable def slices_IndexFunc_api_Grant_api_Grant_grant_Check_1_c_s0 {ρ : Type} (n : Nat) (rec : (List Ev.Grant) × Int × Int × (Ev.Grant × Unit) × Unit → Option ρ) (kx : (Ev.Grant × Unit) × Unit → Option ρ) (kr : Int × (Ev.Grant × Unit) × Unit → Option ρ) : (List Ev.Grant) × Int × Int × (Ev.Grant × Unit) × Unit → Option ρ :=
  fun (v3, v4, v5, o6, _) => 
  (bif decide ((v5 : Int) < v4) then 
  (ix v3 v5).bind fun x7 => 
  (grant_Check_1 ((Ev.Grant.mk x7.who x7.labels), ((Ev.Grant.mk o6.1.who o6.1.labels), ()), ())).bind fun (y8, o9, _) => 
  (bif y8 then kr (v5, ((Ev.Grant.mk o9.1.who o9.1.labels), ()), ())
  else rec (v3, v4, IntKind.wrap .i64 (v5 + 1), ((Ev.Grant.mk o9.1.who o9.1.labels), ()), ()))
  else kx (((Ev.Grant.mk o6.1.who o6.1.labels), ()), ()))

noncomputable def F_slices_IndexFunc_api_Grant_api_Grant_grant_Check_1_c_s0 {ρ : Type} (n : Nat) (kr : Int × (Ev.Grant × Unit) × Unit → Option ρ) : Int → Ev.Grant → ((Ev.Grant × Unit) × Unit) → (((Ev.Grant × Unit) × Unit) → Option ρ) → Option ρ :=
  fun v5 x7 (o6, _) rec =>  
  (grant_Check_1 ((Ev.Grant.mk x7.who x7.labels), ((Ev.Grant.mk o6.1.who o6.1.labels), ()), ())).bind fun (y8, o9, _) => 
  (bif y8 then kr (v5, ((Ev.Grant.mk o9.1.who o9.1.labels), ()), ())
  else rec (((Ev.Grant.mk o9.1.who o9.1.labels), ()), ()))

theorem R_slices_IndexFunc_api_Grant_api_Grant_grant_Check_1_c_s0 {ρ : Type} (n : Nat) (kx : (Ev.Grant × Unit) × Unit → Option ρ) (kr : Int × (Ev.Grant × Unit) × Unit → Option ρ) (l : List Ev.Grant) (fuel : Nat) (o6 : Ev.Grant × Unit) (hl : l.length ≤ 9223372036854775807) (hf : l.length < fuel) :
    iterN (fun rc => slices_IndexFunc_api_Grant_api_Grant_grant_Check_1_c_s0 n rc kx kr) fuel (l, (l.length : Int), 0, o6, ()) = foldK (F_slices_IndexFunc_api_Grant_api_Grant_grant_Check_1_c_s0 n kr) (fun (o6, _) => kx (((Ev.Grant.mk o6.1.who o6.1.labels), ()), ())) 0 l (o6, ()) :=
  range_listM l (fun i (o6, _) => (l, (l.length : Int), i, o6, ())) _ _ _ (fun rec i s => rfl) hl fuel (o6, ()) hf

/-- slices.IndexFunc   api.Grant,api.Grant  -/
noncomputable def slices_IndexFunc_api_Grant_api_Grant_grant_Check_1_c (n : Nat) : (List Ev.Grant) × (Ev.Grant × Unit) × Unit → Option (Int × (Ev.Grant × Unit) × Unit) :=
  fun (a1, o2, _) => 
  iterN (fun rc13 => slices_IndexFunc_api_Grant_api_Grant_grant_Check_1_c_s0 n rc13 (fun (o10, _) => some ((-1), ((Ev.Grant.mk o10.1.who o10.1.labels), ()), ())) (fun (v11, o12, _) => some (v11, ((Ev.Grant.mk o12.1.who o12.1.labels), ()), ()))) (n) (a1, (a1.length : Int), 0, ((Ev.Grant.mk o2.1.who o2.1.labels), ()), ())

/-- slices.ContainsFunc   api.Grant,api.Grant  -/
noncomputable def slices_ContainsFunc_api_Grant_api_Grant_grant_Check_1_c (n : Nat) : (List Ev.Grant) × (Ev.Grant × Unit) × Unit → Option (Bool × (Ev.Grant × Unit) × Unit) :=
  fun (a1, o2, _) => 
  (slices_IndexFunc_api_Grant_api_Grant_grant_Check_1_c n (a1, ((Ev.Grant.mk o2.1.who o2.1.labels), ()), ())).bind fun (y3, o4, _) => some (decide ((y3 : Int) ≥ 0), ((Ev.Grant.mk o4.1.who o4.1.labels), ()), ())

/-- a round of a loop of grant.Check -/
noncomputable def grant_Check_s2 {ρ : Type} (n : Nat) (rec : (List Ev.Grant) × (List Ev.Grant) × Int × Int × (List ByteArray) × Int × Int × Unit → Option ρ) (kx : (List Ev.Grant) × (List Ev.Grant) × Int × Int × Unit → Option ρ) (kr : Int × Unit → Option ρ) : (List Ev.Grant) × (List Ev.Grant) × Int × Int × (List ByteArray) × Int × Int × Unit → Option ρ :=
  fun (v11, v12, v13, v14, v15, v16, v17, _) => 
  (bif decide ((v17 : Int) < v16) then 
  (ix v15 v17).bind fun x18 => 
  (bif !(seq x18 (⟨#[]⟩ : ByteArray)) then 
  (graph_Name n (x18, ())).bind fun (y19, _) => 
  (bif !y19 then kr (6, ())
  else rec (v11, v12, v13, v14, v15, v16, IntKind.wrap .i64 (v17 + 1), ()))
  else rec (v11, v12, v13, v14, v15, v16, IntKind.wrap .i64 (v17 + 1), ()))
  else kx (v11, v12, v13, v14, ()))

/-- a round of a loop of grant.Check -/
noncomputable def grant_Check_s0 {ρ : Type} (n : Nat) (rec : (List Ev.Grant) × (List Ev.Grant) × Int × Int × Unit → Option ρ) (kx : Unit → Option ρ) (kr : Int × Unit → Option ρ) : (List Ev.Grant) × (List Ev.Grant) × Int × Int × Unit → Option ρ :=
  fun (v2, v3, v4, v5, _) => 
  (bif decide ((v5 : Int) < v4) then 
  (ix v3 v5).bind fun x6 => 
  (graph_Name n (x6.who, ())).bind fun (y7, _) => 
  (bif !y7 then kr (6, ())
  else 
  (lsl v2 0 v5).bind fun l8 => 
  (slices_ContainsFunc_api_Grant_api_Grant_grant_Check_1_c n (l8, ((Ev.Grant.mk x6.who x6.labels), ()), ())).bind fun (y9, o10, _) => 
  (bif y9 then kr (7, ())
  else 
  (bif decide (((o10.1.labels.length : Int) : Int) > 4) then kr (2, ())
  else 
  iterN (fun rc25 => grant_Check_s2 n rc25 (fun (v20, v21, v22, v23, _) => rec (v20, v21, v22, IntKind.wrap .i64 (v23 + 1), ())) (fun (v24, _) => kr (v24, ()))) (n) (v2, v3, v4, v5, o10.1.labels, (o10.1.labels.length : Int), 0, ()))))
  else kx (()))

noncomputable def F_grant_Check_s2 {ρ : Type} (n : Nat) (kr : Int × Unit → Option ρ) : Int → ByteArray → ((List Ev.Grant) × (List Ev.Grant) × Int × Int × Unit) → (((List Ev.Grant) × (List Ev.Grant) × Int × Int × Unit) → Option ρ) → Option ρ :=
  fun v17 x18 (v11, v12, v13, v14, _) rec =>  
  (bif !(seq x18 (⟨#[]⟩ : ByteArray)) then 
  (graph_Name n (x18, ())).bind fun (y19, _) => 
  (bif !y19 then kr (6, ())
  else rec (v11, v12, v13, v14, ()))
  else rec (v11, v12, v13, v14, ()))

theorem R_grant_Check_s2 {ρ : Type} (n : Nat) (kx : (List Ev.Grant) × (List Ev.Grant) × Int × Int × Unit → Option ρ) (kr : Int × Unit → Option ρ) (l : List ByteArray) (fuel : Nat) (v11 : List Ev.Grant) (v12 : List Ev.Grant) (v13 : Int) (v14 : Int) (hl : l.length ≤ 9223372036854775807) (hf : l.length < fuel) :
    iterN (fun rc => grant_Check_s2 n rc kx kr) fuel (v11, v12, v13, v14, l, (l.length : Int), 0, ()) = foldK (F_grant_Check_s2 n kr) (fun (v11, v12, v13, v14, _) => kx (v11, v12, v13, v14, ())) 0 l (v11, v12, v13, v14, ()) :=
  range_listM l (fun i (v11, v12, v13, v14, _) => (v11, v12, v13, v14, l, (l.length : Int), i, ())) _ _ _ (fun rec i s => rfl) hl fuel (v11, v12, v13, v14, ()) hf

/-- grant.Check -/
noncomputable def grant_Check (n : Nat) : (List Ev.Grant) × Unit → Option (Int × Unit) :=
  fun (a1, _) => 
  (bif decide (((a1.length : Int) : Int) > 4) then some (2, ())
  else 
  iterN (fun rc27 => grant_Check_s0 n rc27 (fun (_) => some (0, ())) (fun (v26, _) => some (v26, ()))) (n) (a1, a1, (a1.length : Int), 0, ()))

/-- a round of a loop of graph.Labels -/
noncomputable def graph_Labels_s0 {ρ : Type} (n : Nat) (rec : (List ByteArray) × (List ByteArray) × Int × Int × Unit → Option ρ) (kx : Unit → Option ρ) (kr : Int × Unit → Option ρ) : (List ByteArray) × (List ByteArray) × Int × Int × Unit → Option ρ :=
  fun (v2, v3, v4, v5, _) => 
  (bif decide ((v5 : Int) < v4) then 
  (ix v3 v5).bind fun x6 => 
  (graph_Name n (x6, ())).bind fun (y7, _) => 
  (bif !y7 then kr (6, ())
  else 
  (bif decide ((v5 : Int) > 0) then 
  (ix v2 (IntKind.wrap .i64 (v5 - 1))).bind fun x8 => 
  (bif !(sless x8 x6) then kr (6, ())
  else rec (v2, v3, v4, IntKind.wrap .i64 (v5 + 1), ()))
  else rec (v2, v3, v4, IntKind.wrap .i64 (v5 + 1), ())))
  else kx (()))

noncomputable def F_graph_Labels_s0 {ρ : Type} (n : Nat) (kr : Int × Unit → Option ρ) : Int → ByteArray → ((List ByteArray) × Unit) → (((List ByteArray) × Unit) → Option ρ) → Option ρ :=
  fun v5 x6 (v2, _) rec =>  
  (graph_Name n (x6, ())).bind fun (y7, _) => 
  (bif !y7 then kr (6, ())
  else 
  (bif decide ((v5 : Int) > 0) then 
  (ix v2 (IntKind.wrap .i64 (v5 - 1))).bind fun x8 => 
  (bif !(sless x8 x6) then kr (6, ())
  else rec (v2, ()))
  else rec (v2, ())))

theorem R_graph_Labels_s0 {ρ : Type} (n : Nat) (kx : Unit → Option ρ) (kr : Int × Unit → Option ρ) (l : List ByteArray) (fuel : Nat) (v2 : List ByteArray) (hl : l.length ≤ 9223372036854775807) (hf : l.length < fuel) :
    iterN (fun rc => graph_Labels_s0 n rc kx kr) fuel (v2, l, (l.length : Int), 0, ()) = foldK (F_graph_Labels_s0 n kr) (fun (v2, _) => kx (())) 0 l (v2, ()) :=
  range_listM l (fun i (v2, _) => (v2, l, (l.length : Int), i, ())) _ _ _ (fun rec i s => rfl) hl fuel (v2, ()) hf

/-- graph.Labels -/
noncomputable def graph_Labels (n : Nat) : (List ByteArray) × Unit → Option (Int × Unit) :=
  fun (a1, _) => 
  (bif decide (((a1.length : Int) : Int) > 4) then some (2, ())
  else 
  iterN (fun rc10 => graph_Labels_s0 n rc10 (fun (_) => some (0, ())) (fun (v9, _) => some (v9, ()))) (n) (a1, a1, (a1.length : Int), 0, ()))

/-- a round of a loop of value.check -/
noncomputable def value_check_s1 {ρ : Type} (self_value_check : Ev.Val × Int × Unit → Option (Int × Unit)) (n : Nat) (rec : Int × (List Ev.Val) × Int × Int × (Ev.Val × Unit) × Unit → Option ρ) (kx : (Ev.Val × Unit) × Unit → Option ρ) (kr : Int × Unit → Option ρ) : Int × (List Ev.Val) × Int × Int × (Ev.Val × Unit) × Unit → Option ρ :=
  fun (v4, v5, v6, v7, o8, _) => 
  (bif decide ((v7 : Int) < v6) then 
  (ix v5 v7).bind fun x9 => 
  (self_value_check ((Ev.Val.mk x9.kind x9.n x9.s x9.l), IntKind.wrap .i64 (v4 + 1), ())).bind fun (y10, _) => 
  (bif (y10 : Int) != 0 then kr (y10, ())
  else rec (v4, v5, v6, IntKind.wrap .i64 (v7 + 1), ((Ev.Val.mk o8.1.kind o8.1.n o8.1.s o8.1.l), ()), ()))
  else kx (((Ev.Val.mk o8.1.kind o8.1.n o8.1.s o8.1.l), ()), ()))

noncomputable def F_value_check_s1 {ρ : Type} (self_value_check : Ev.Val × Int × Unit → Option (Int × Unit)) (n : Nat) (kr : Int × Unit → Option ρ) : Int → Ev.Val → (Int × (Ev.Val × Unit) × Unit) → ((Int × (Ev.Val × Unit) × Unit) → Option ρ) → Option ρ :=
  fun v7 x9 (v4, o8, _) rec =>  
  (self_value_check ((Ev.Val.mk x9.kind x9.n x9.s x9.l), IntKind.wrap .i64 (v4 + 1), ())).bind fun (y10, _) => 
  (bif (y10 : Int) != 0 then kr (y10, ())
  else rec (v4, ((Ev.Val.mk o8.1.kind o8.1.n o8.1.s o8.1.l), ()), ()))

theorem R_value_check_s1 {ρ : Type} (self_value_check : Ev.Val × Int × Unit → Option (Int × Unit)) (n : Nat) (kx : (Ev.Val × Unit) × Unit → Option ρ) (kr : Int × Unit → Option ρ) (l : List Ev.Val) (fuel : Nat) (v4 : Int) (o8 : Ev.Val × Unit) (hl : l.length ≤ 9223372036854775807) (hf : l.length < fuel) :
    iterN (fun rc => value_check_s1 self_value_check n rc kx kr) fuel (v4, l, (l.length : Int), 0, o8, ()) = foldK (F_value_check_s1 self_value_check n kr) (fun (v4, o8, _) => kx (((Ev.Val.mk o8.1.kind o8.1.n o8.1.s o8.1.l), ()), ())) 0 l (v4, o8, ()) :=
  range_listM l (fun i (v4, o8, _) => (v4, l, (l.length : Int), i, o8, ())) _ _ _ (fun rec i s => rfl) hl fuel (v4, o8, ()) hf

/-- value.check -/
noncomputable def value_check_b (self_value_check : Ev.Val × Int × Unit → Option (Int × Unit)) (n : Nat) : Ev.Val × Int × Unit → Option (Int × Unit) :=
  fun (a1, a2, _) => 
  (bif (a1.kind : Int) == 0 then 
  (bif !((((a1.n : Int) == 0) && (seq a1.s (⟨#[]⟩ : ByteArray))) && (((a1.l.length : Int) : Int) == 0)) then some (6, ())
  else some (0, ()))
  else 
  (bif (a1.kind : Int) == 1 then 
  (bif !(((((a1.n : Int) == 0) || ((a1.n : Int) == 1)) && (seq a1.s (⟨#[]⟩ : ByteArray))) && (((a1.l.length : Int) : Int) == 0)) then some (6, ())
  else some (0, ()))
  else 
  (bif (a1.kind : Int) == 2 then 
  (bif !((seq a1.s (⟨#[]⟩ : ByteArray)) && (((a1.l.length : Int) : Int) == 0)) then some (6, ())
  else some (0, ()))
  else 
  (bif (a1.kind : Int) == 3 then 
  (bif decide (((a1.s.size : Int) : Int) > 4000) then some (2, ())
  else 
  (bif (a1.n : Int) == 0 then 
  (validN (a1.s, ())).bind fun (y3, _) => 
  (bif !(y3 && (((a1.l.length : Int) : Int) == 0)) then some (6, ())
  else some (0, ()))
  else some (6, ())))
  else 
  (bif (a1.kind : Int) == 4 then 
  (bif (decide (((a1.l.length : Int) : Int) > 30)) || (decide ((a2 : Int) > 6)) then some (2, ())
  else 
  iterN (fun rc13 => value_check_s1 self_value_check n rc13 (fun (o11, _) => 
  (bif !(((o11.1.n : Int) == 0) && (seq o11.1.s (⟨#[]⟩ : ByteArray))) then some (6, ())
  else some (0, ()))) (fun (v12, _) => some (v12, ()))) (n) (a2, a1.l, (a1.l.length : Int), 0, ((Ev.Val.mk a1.kind a1.n a1.s a1.l), ()), ()))
  else some (6, ()))))))

noncomputable def value_check : Nat → Ev.Val × Int × Unit → Option (Int × Unit)
  | 0, _ => none
  | n + 1, x => value_check_b (value_check n) n x

/-- value.Check -/
noncomputable def value_Check (n : Nat) : Ev.Val × Unit → Option (Int × Unit) :=
  fun (a1, _) => 
  (value_check n ((Ev.Val.mk a1.kind a1.n a1.s a1.l), 1, ())).bind fun (y2, _) => some (y2, ())

/-- a round of a loop of graph.Props -/
noncomputable def graph_Props_s0 {ρ : Type} (n : Nat) (rec : (List Ev.Prp) × (List Ev.Prp) × Int × Int × Unit → Option ρ) (kx : Unit → Option ρ) (kr : Int × Unit → Option ρ) : (List Ev.Prp) × (List Ev.Prp) × Int × Int × Unit → Option ρ :=
  fun (v2, v3, v4, v5, _) => 
  (bif decide ((v5 : Int) < v4) then 
  (ix v3 v5).bind fun x6 => 
  (graph_Name n (x6.name, ())).bind fun (y7, _) => 
  (bif !y7 then kr (6, ())
  else 
  (bif decide ((v5 : Int) > 0) then 
  (ix v2 (IntKind.wrap .i64 (v5 - 1))).bind fun x8 => 
  (bif (!(sless x8.name x6.name)) || ((x6.val.kind : Int) == 0) then kr (6, ())
  else 
  (value_Check n ((Ev.Val.mk x6.val.kind x6.val.n x6.val.s x6.val.l), ())).bind fun (y9, _) => 
  (bif (y9 : Int) != 0 then kr (y9, ())
  else rec (v2, v3, v4, IntKind.wrap .i64 (v5 + 1), ())))
  else 
  (bif (x6.val.kind : Int) == 0 then kr (6, ())
  else 
  (value_Check n ((Ev.Val.mk x6.val.kind x6.val.n x6.val.s x6.val.l), ())).bind fun (y10, _) => 
  (bif (y10 : Int) != 0 then kr (y10, ())
  else rec (v2, v3, v4, IntKind.wrap .i64 (v5 + 1), ())))))
  else kx (()))

noncomputable def F_graph_Props_s0 {ρ : Type} (n : Nat) (kr : Int × Unit → Option ρ) : Int → Ev.Prp → ((List Ev.Prp) × Unit) → (((List Ev.Prp) × Unit) → Option ρ) → Option ρ :=
  fun v5 x6 (v2, _) rec =>  
  (graph_Name n (x6.name, ())).bind fun (y7, _) => 
  (bif !y7 then kr (6, ())
  else 
  (bif decide ((v5 : Int) > 0) then 
  (ix v2 (IntKind.wrap .i64 (v5 - 1))).bind fun x8 => 
  (bif (!(sless x8.name x6.name)) || ((x6.val.kind : Int) == 0) then kr (6, ())
  else 
  (value_Check n ((Ev.Val.mk x6.val.kind x6.val.n x6.val.s x6.val.l), ())).bind fun (y9, _) => 
  (bif (y9 : Int) != 0 then kr (y9, ())
  else rec (v2, ())))
  else 
  (bif (x6.val.kind : Int) == 0 then kr (6, ())
  else 
  (value_Check n ((Ev.Val.mk x6.val.kind x6.val.n x6.val.s x6.val.l), ())).bind fun (y10, _) => 
  (bif (y10 : Int) != 0 then kr (y10, ())
  else rec (v2, ())))))

theorem R_graph_Props_s0 {ρ : Type} (n : Nat) (kx : Unit → Option ρ) (kr : Int × Unit → Option ρ) (l : List Ev.Prp) (fuel : Nat) (v2 : List Ev.Prp) (hl : l.length ≤ 9223372036854775807) (hf : l.length < fuel) :
    iterN (fun rc => graph_Props_s0 n rc kx kr) fuel (v2, l, (l.length : Int), 0, ()) = foldK (F_graph_Props_s0 n kr) (fun (v2, _) => kx (())) 0 l (v2, ()) :=
  range_listM l (fun i (v2, _) => (v2, l, (l.length : Int), i, ())) _ _ _ (fun rec i s => rfl) hl fuel (v2, ()) hf

/-- graph.Props -/
noncomputable def graph_Props (n : Nat) : (List Ev.Prp) × Unit → Option (Int × Unit) :=
  fun (a1, _) => 
  (bif decide (((a1.length : Int) : Int) > 6) then some (2, ())
  else 
  iterN (fun rc12 => graph_Props_s0 n rc12 (fun (_) => some (0, ())) (fun (v11, _) => some (v11, ()))) (n) (a1, a1, (a1.length : Int), 0, ()))

/-- a round of a loop of cmp.Or api.Errno  -/
noncomputable def cmp_Or_api_Errno_s0 {ρ : Type} (n : Nat) (rec : Int × (List Int) × Int × Int × Unit → Option ρ) (kx : Int × Unit → Option ρ) (kr : Int × Unit → Option ρ) : Int × (List Int) × Int × Int × Unit → Option ρ :=
  fun (v2, v3, v4, v5, _) => 
  (bif decide ((v5 : Int) < v4) then 
  (ix v3 v5).bind fun x6 => 
  (bif (x6 : Int) != v2 then kr (x6, ())
  else rec (v2, v3, v4, IntKind.wrap .i64 (v5 + 1), ()))
  else kx (v2, ()))

noncomputable def F_cmp_Or_api_Errno_s0 {ρ : Type} (n : Nat) (kr : Int × Unit → Option ρ) : Int → Int → (Int × Unit) → ((Int × Unit) → Option ρ) → Option ρ :=
  fun v5 x6 (v2, _) rec =>  
  (bif (x6 : Int) != v2 then kr (x6, ())
  else rec (v2, ()))

theorem R_cmp_Or_api_Errno_s0 {ρ : Type} (n : Nat) (kx : Int × Unit → Option ρ) (kr : Int × Unit → Option ρ) (l : List Int) (fuel : Nat) (v2 : Int) (hl : l.length ≤ 9223372036854775807) (hf : l.length < fuel) :
    iterN (fun rc => cmp_Or_api_Errno_s0 n rc kx kr) fuel (v2, l, (l.length : Int), 0, ()) = foldK (F_cmp_Or_api_Errno_s0 n kr) (fun (v2, _) => kx (v2, ())) 0 l (v2, ()) :=
  range_listM l (fun i (v2, _) => (v2, l, (l.length : Int), i, ())) _ _ _ (fun rec i s => rfl) hl fuel (v2, ()) hf

/-- cmp.Or api.Errno  -/
noncomputable def cmp_Or_api_Errno (n : Nat) : (List Int) × Unit → Option (Int × Unit) :=
  fun (a1, _) => 
  iterN (fun rc9 => cmp_Or_api_Errno_s0 n rc9 (fun (v7, _) => some (v7, ())) (fun (v8, _) => some (v8, ()))) (n) (0, a1, (a1.length : Int), 0, ())

/-- cmp.isNaN int  -/
noncomputable def cmp_isNaN_int : Int × Unit → Option (Bool × Unit) :=
  fun (a1, _) => some ((a1 : Int) != a1, ())

/-- cmp.Compare int  -/
noncomputable def cmp_Compare_int : Int × Int × Unit → Option (Int × Unit) :=
  fun (a1, a2, _) => 
  (cmp_isNaN_int (a1, ())).bind fun (y3, _) => 
  (cmp_isNaN_int (a2, ())).bind fun (y4, _) => 
  (bif y3 then 
  (bif y4 then some (0, ())
  else some ((-1), ()))
  else 
  (bif y4 then some (1, ())
  else 
  (bif decide ((a1 : Int) < a2) then some ((-1), ())
  else 
  (bif decide ((a1 : Int) > a2) then some (1, ())
  else some (0, ())))))

/-- graph.Find$1 -/
noncomputable def graph_Find_1 : Ev.Node × Int × Unit → Option (Int × Unit) :=
  fun (a1, a2, _) => 
  (cmp_Compare_int (a1.id, a2, ())).bind fun (y3, _) => some (y3, ())

/-- a round of a loop of slices.BinarySearchFunc   api.Node,api.Node,int  -/
noncomputable def slices_BinarySearchFunc_api_Node_api_Node_int_graph_Find_1_s0 {ρ : Type} (n : Nat) (rec : (List Ev.Node) × Int × Int × Int × Int × Unit → Option ρ) (kx : (List Ev.Node) × Int × Int × Int × Unit → Option ρ) (kr : Unit → Option ρ) : (List Ev.Node) × Int × Int × Int × Int × Unit → Option ρ :=
  fun (v3, v4, v5, v6, v7, _) => 
  (bif decide ((v6 : Int) < v7) then 
  (ix v3 (IntKind.wrap .i64 (bshr .u64 (IntKind.wrap .u64 (IntKind.wrap .i64 (v6 + v7))) 1))).bind fun x8 => 
  (graph_Find_1 ((Ev.Node.mk x8.id x8.labels x8.props), v4, ())).bind fun (y9, _) => 
  (bif decide ((y9 : Int) < 0) then rec (v3, v4, v5, IntKind.wrap .i64 ((IntKind.wrap .i64 (bshr .u64 (IntKind.wrap .u64 (IntKind.wrap .i64 (v6 + v7))) 1)) + 1), v7, ())
  else rec (v3, v4, v5, v6, IntKind.wrap .i64 (bshr .u64 (IntKind.wrap .u64 (IntKind.wrap .i64 (v6 + v7))) 1), ()))
  else kx (v3, v4, v5, v6, ()))

/-- slices.BinarySearchFunc   api.Node,api.Node,int  -/
noncomputable def slices_BinarySearchFunc_api_Node_api_Node_int_graph_Find_1 (n : Nat) : (List Ev.Node) × Int × Unit → Option (Int × Bool × Unit) :=
  fun (a1, a2, _) => 
  iterN (fun rc16 => slices_BinarySearchFunc_api_Node_api_Node_int_graph_Find_1_s0 n rc16 (fun (v10, v11, v12, v13, _) => 
  (bif decide ((v13 : Int) < v12) then 
  (ix v10 v13).bind fun x14 => 
  (graph_Find_1 ((Ev.Node.mk x14.id x14.labels x14.props), v11, ())).bind fun (y15, _) => some (v13, (y15 : Int) == 0, ())
  else some (v13, false, ()))) (fun (_) => none)) (n) (a1, a2, (a1.length : Int), 0, (a1.length : Int), ())

/-- graph.Find -/
noncomputable def graph_Find (n : Nat) : Ev.Graph × Int × Unit → Option (Int × Unit) :=
  fun (a1, a2, _) => 
  (slices_BinarySearchFunc_api_Node_api_Node_int_graph_Find_1 n (a1.nodes, a2, ())).bind fun (y3, y4, _) => 
  (bif !y4 then some ((-1), ())
  else some (y3, ()))

/-- a round of a loop of graph.Check -/
noncomputable def graph_Check_s0 {ρ : Type} (n : Nat) (rec : Int × (List Ev.Node) × Int × Int × (Ev.Graph × Unit) × Unit → Option ρ) (kx : Int × (Ev.Graph × Unit) × Unit → Option ρ) (kr : Int × Unit → Option ρ) : Int × (List Ev.Node) × Int × Int × (Ev.Graph × Unit) × Unit → Option ρ :=
  fun (v2, v3, v4, v5, o6, _) => 
  (bif decide ((v5 : Int) < v4) then 
  (ix v3 v5).bind fun x7 => 
  (bif decide ((x7.id : Int) ≤ v2) then kr (6, ())
  else 
  (graph_Labels n (x7.labels, ())).bind fun (y8, _) => 
  (graph_Props n (x7.props, ())).bind fun (y9, _) => 
  (cmp_Or_api_Errno n (([y8, y9] : List Int), ())).bind fun (y10, _) => 
  (bif (y10 : Int) != 0 then kr (y10, ())
  else rec (x7.id, v3, v4, IntKind.wrap .i64 (v5 + 1), ((Ev.Graph.mk o6.1.nodes o6.1.edges o6.1.next), ()), ())))
  else kx (v2, ((Ev.Graph.mk o6.1.nodes o6.1.edges o6.1.next), ()), ()))

/-- a round of a loop of graph.Check -/
noncomputable def graph_Check_s2 {ρ : Type} (n : Nat) (rec : Int × Int × (List Ev.Edg) × Int × Int × (Ev.Graph × Unit) × Unit → Option ρ) (kx : Int × Int × (Ev.Graph × Unit) × Unit → Option ρ) (kr : Int × Unit → Option ρ) : Int × Int × (List Ev.Edg) × Int × Int × (Ev.Graph × Unit) × Unit → Option ρ :=
  fun (v14, v15, v16, v17, v18, o19, _) => 
  (bif decide ((v18 : Int) < v17) then 
  (ix v16 v18).bind fun x20 => 
  (bif decide ((x20.id : Int) ≤ v14) then kr (6, ())
  else 
  (graph_Find n ((Ev.Graph.mk o19.1.nodes o19.1.edges o19.1.next), x20.id, ())).bind fun (y21, _) => 
  (bif decide ((y21 : Int) ≥ 0) then kr (6, ())
  else 
  (graph_Name n (x20.type, ())).bind fun (y22, _) => 
  (bif !y22 then kr (6, ())
  else 
  (graph_Find n ((Ev.Graph.mk o19.1.nodes o19.1.edges o19.1.next), x20.src, ())).bind fun (y23, _) => 
  (bif decide ((y23 : Int) < 0) then kr (5, ())
  else 
  (graph_Find n ((Ev.Graph.mk o19.1.nodes o19.1.edges o19.1.next), x20.dst, ())).bind fun (y24, _) => 
  (bif decide ((y24 : Int) < 0) then kr (5, ())
  else 
  (graph_Props n (x20.props, ())).bind fun (y25, _) => 
  (bif (y25 : Int) != 0 then kr (y25, ())
  else rec (x20.id, v15, v16, v17, IntKind.wrap .i64 (v18 + 1), ((Ev.Graph.mk o19.1.nodes o19.1.edges o19.1.next), ()), ())))))))
  else kx (v14, v15, ((Ev.Graph.mk o19.1.nodes o19.1.edges o19.1.next), ()), ()))

noncomputable def F_graph_Check_s0 {ρ : Type} (n : Nat) (kr : Int × Unit → Option ρ) : Int → Ev.Node → (Int × (Ev.Graph × Unit) × Unit) → ((Int × (Ev.Graph × Unit) × Unit) → Option ρ) → Option ρ :=
  fun v5 x7 (v2, o6, _) rec =>  
  (bif decide ((x7.id : Int) ≤ v2) then kr (6, ())
  else 
  (graph_Labels n (x7.labels, ())).bind fun (y8, _) => 
  (graph_Props n (x7.props, ())).bind fun (y9, _) => 
  (cmp_Or_api_Errno n (([y8, y9] : List Int), ())).bind fun (y10, _) => 
  (bif (y10 : Int) != 0 then kr (y10, ())
  else rec (x7.id, ((Ev.Graph.mk o6.1.nodes o6.1.edges o6.1.next), ()), ())))

theorem R_graph_Check_s0 {ρ : Type} (n : Nat) (kx : Int × (Ev.Graph × Unit) × Unit → Option ρ) (kr : Int × Unit → Option ρ) (l : List Ev.Node) (fuel : Nat) (v2 : Int) (o6 : Ev.Graph × Unit) (hl : l.length ≤ 9223372036854775807) (hf : l.length < fuel) :
    iterN (fun rc => graph_Check_s0 n rc kx kr) fuel (v2, l, (l.length : Int), 0, o6, ()) = foldK (F_graph_Check_s0 n kr) (fun (v2, o6, _) => kx (v2, ((Ev.Graph.mk o6.1.nodes o6.1.edges o6.1.next), ()), ())) 0 l (v2, o6, ()) :=
  range_listM l (fun i (v2, o6, _) => (v2, l, (l.length : Int), i, o6, ())) _ _ _ (fun rec i s => rfl) hl fuel (v2, o6, ()) hf

noncomputable def F_graph_Check_s2 {ρ : Type} (n : Nat) (kr : Int × Unit → Option ρ) : Int → Ev.Edg → (Int × Int × (Ev.Graph × Unit) × Unit) → ((Int × Int × (Ev.Graph × Unit) × Unit) → Option ρ) → Option ρ :=
  fun v18 x20 (v14, v15, o19, _) rec =>  
  (bif decide ((x20.id : Int) ≤ v14) then kr (6, ())
  else 
  (graph_Find n ((Ev.Graph.mk o19.1.nodes o19.1.edges o19.1.next), x20.id, ())).bind fun (y21, _) => 
  (bif decide ((y21 : Int) ≥ 0) then kr (6, ())
  else 
  (graph_Name n (x20.type, ())).bind fun (y22, _) => 
  (bif !y22 then kr (6, ())
  else 
  (graph_Find n ((Ev.Graph.mk o19.1.nodes o19.1.edges o19.1.next), x20.src, ())).bind fun (y23, _) => 
  (bif decide ((y23 : Int) < 0) then kr (5, ())
  else 
  (graph_Find n ((Ev.Graph.mk o19.1.nodes o19.1.edges o19.1.next), x20.dst, ())).bind fun (y24, _) => 
  (bif decide ((y24 : Int) < 0) then kr (5, ())
  else 
  (graph_Props n (x20.props, ())).bind fun (y25, _) => 
  (bif (y25 : Int) != 0 then kr (y25, ())
  else rec (x20.id, v15, ((Ev.Graph.mk o19.1.nodes o19.1.edges o19.1.next), ()), ())))))))

theorem R_graph_Check_s2 {ρ : Type} (n : Nat) (kx : Int × Int × (Ev.Graph × Unit) × Unit → Option ρ) (kr : Int × Unit → Option ρ) (l : List Ev.Edg) (fuel : Nat) (v14 : Int) (v15 : Int) (o19 : Ev.Graph × Unit) (hl : l.length ≤ 9223372036854775807) (hf : l.length < fuel) :
    iterN (fun rc => graph_Check_s2 n rc kx kr) fuel (v14, v15, l, (l.length : Int), 0, o19, ()) = foldK (F_graph_Check_s2 n kr) (fun (v14, v15, o19, _) => kx (v14, v15, ((Ev.Graph.mk o19.1.nodes o19.1.edges o19.1.next), ()), ())) 0 l (v14, v15, o19, ()) :=
  range_listM l (fun i (v14, v15, o19, _) => (v14, v15, l, (l.length : Int), i, o19, ())) _ _ _ (fun rec i s => rfl) hl fuel (v14, v15, o19, ()) hf

/-- graph.Check -/
noncomputable def graph_Check (n : Nat) : Ev.Graph × Unit → Option (Int × Unit) :=
  fun (a1, _) => 
  (bif (decide (((a1.nodes.length : Int) : Int) > 40)) || (decide (((a1.edges.length : Int) : Int) > 60)) then some (2, ())
  else 
  iterN (fun rc31 => graph_Check_s0 n rc31 (fun (v11, o12, _) => 
  iterN (fun rc30 => graph_Check_s2 n rc30 (fun (v26, v27, o28, _) => 
  (bif (decide ((o28.1.next : Int) ≤ (if v26 > v27 then v26 else v27))) || (decide ((o28.1.next : Int) > 1099511627776)) then some (9, ())
  else some (0, ()))) (fun (v29, _) => some (v29, ()))) (n) (0, v11, o12.1.edges, (o12.1.edges.length : Int), 0, ((Ev.Graph.mk o12.1.nodes o12.1.edges o12.1.next), ()), ())) (fun (v13, _) => some (v13, ()))) (n) (0, a1.nodes, (a1.nodes.length : Int), 0, ((Ev.Graph.mk a1.nodes a1.edges a1.next), ()), ()))

/-- grant.See$1 -/
noncomputable def grant_See_1 : Ev.Grant × (ByteArray × Unit) × Unit → Option (Bool × (ByteArray × Unit) × Unit) :=
  fun (a1, o2, _) => some (seq a1.who o2.1, (o2.1, ()), ())

/-- a round of a loop of slices.IndexFunc   api.Grant,api.Grant  -/
noncomputable def slices_IndexFunc_api_Grant_api_Grant_grant_See_1_c_s0 {ρ : Type} (n : Nat) (rec : (List Ev.Grant) × Int × Int × (ByteArray × Unit) × Unit → Option ρ) (kx : (ByteArray × Unit) × Unit → Option ρ) (kr : Int × (ByteArray × Unit) × Unit → Option ρ) : (List Ev.Grant) × Int × Int × (ByteArray × Unit) × Unit → Option ρ :=
  fun (v3, v4, v5, o6, _) => 
  (bif decide ((v5 : Int) < v4) then 
  (ix v3 v5).bind fun x7 => 
  (grant_See_1 ((Ev.Grant.mk x7.who x7.labels), (o6.1, ()), ())).bind fun (y8, o9, _) => 
  (bif y8 then kr (v5, (o9.1, ()), ())
  else rec (v3, v4, IntKind.wrap .i64 (v5 + 1), (o9.1, ()), ()))
  else kx ((o6.1, ()), ()))

noncomputable def F_slices_IndexFunc_api_Grant_api_Grant_grant_See_1_c_s0 {ρ : Type} (n : Nat) (kr : Int × (ByteArray × Unit) × Unit → Option ρ) : Int → Ev.Grant → ((ByteArray × Unit) × Unit) → (((ByteArray × Unit) × Unit) → Option ρ) → Option ρ :=
  fun v5 x7 (o6, _) rec =>  
  (grant_See_1 ((Ev.Grant.mk x7.who x7.labels), (o6.1, ()), ())).bind fun (y8, o9, _) => 
  (bif y8 then kr (v5, (o9.1, ()), ())
  else rec ((o9.1, ()), ()))

theorem R_slices_IndexFunc_api_Grant_api_Grant_grant_See_1_c_s0 {ρ : Type} (n : Nat) (kx : (ByteArray × Unit) × Unit → Option ρ) (kr : Int × (ByteArray × Unit) × Unit → Option ρ) (l : List Ev.Grant) (fuel : Nat) (o6 : ByteArray × Unit) (hl : l.length ≤ 9223372036854775807) (hf : l.length < fuel) :
    iterN (fun rc => slices_IndexFunc_api_Grant_api_Grant_grant_See_1_c_s0 n rc kx kr) fuel (l, (l.length : Int), 0, o6, ()) = foldK (F_slices_IndexFunc_api_Grant_api_Grant_grant_See_1_c_s0 n kr) (fun (o6, _) => kx ((o6.1, ()), ())) 0 l (o6, ()) :=
  range_listM l (fun i (o6, _) => (l, (l.length : Int), i, o6, ())) _ _ _ (fun rec i s => rfl) hl fuel (o6, ()) hf

/-- slices.IndexFunc   api.Grant,api.Grant  -/
noncomputable def slices_IndexFunc_api_Grant_api_Grant_grant_See_1_c (n : Nat) : (List Ev.Grant) × (ByteArray × Unit) × Unit → Option (Int × (ByteArray × Unit) × Unit) :=
  fun (a1, o2, _) => 
  iterN (fun rc13 => slices_IndexFunc_api_Grant_api_Grant_grant_See_1_c_s0 n rc13 (fun (o10, _) => some ((-1), (o10.1, ()), ())) (fun (v11, o12, _) => some (v11, (o12.1, ()), ()))) (n) (a1, (a1.length : Int), 0, (o2.1, ()), ())

/-- a round of a loop of slices.Index   string,string  -/
noncomputable def slices_Index_string_string_s0 {ρ : Type} (n : Nat) (rec : (List ByteArray) × ByteArray × Int × Int × Unit → Option ρ) (kx : Unit → Option ρ) (kr : Int × Unit → Option ρ) : (List ByteArray) × ByteArray × Int × Int × Unit → Option ρ :=
  fun (v3, v4, v5, v6, _) => 
  (bif decide ((v6 : Int) < v5) then 
  (ix v3 v6).bind fun x7 => 
  (bif seq v4 x7 then kr (v6, ())
  else rec (v3, v4, v5, IntKind.wrap .i64 (v6 + 1), ()))
  else kx (()))

noncomputable def F_slices_Index_string_string_s0 {ρ : Type} (n : Nat) (kr : Int × Unit → Option ρ) : Int → ByteArray → (ByteArray × Unit) → ((ByteArray × Unit) → Option ρ) → Option ρ :=
  fun v6 x7 (v4, _) rec =>  
  (bif seq v4 x7 then kr (v6, ())
  else rec (v4, ()))

theorem R_slices_Index_string_string_s0 {ρ : Type} (n : Nat) (kx : Unit → Option ρ) (kr : Int × Unit → Option ρ) (l : List ByteArray) (fuel : Nat) (v4 : ByteArray) (hl : l.length ≤ 9223372036854775807) (hf : l.length < fuel) :
    iterN (fun rc => slices_Index_string_string_s0 n rc kx kr) fuel (l, v4, (l.length : Int), 0, ()) = foldK (F_slices_Index_string_string_s0 n kr) (fun (v4, _) => kx (())) 0 l (v4, ()) :=
  range_listM l (fun i (v4, _) => (l, v4, (l.length : Int), i, ())) _ _ _ (fun rec i s => rfl) hl fuel (v4, ()) hf

/-- slices.Index   string,string  -/
noncomputable def slices_Index_string_string (n : Nat) : (List ByteArray) × ByteArray × Unit → Option (Int × Unit) :=
  fun (a1, a2, _) => 
  iterN (fun rc9 => slices_Index_string_string_s0 n rc9 (fun (_) => some ((-1), ())) (fun (v8, _) => some (v8, ()))) (n) (a1, a2, (a1.length : Int), 0, ())

/-- slices.Contains   string,string  -/
noncomputable def slices_Contains_string_string (n : Nat) : (List ByteArray) × ByteArray × Unit → Option (Bool × Unit) :=
  fun (a1, a2, _) => 
  (slices_Index_string_string n (a1, a2, ())).bind fun (y3, _) => some (decide ((y3 : Int) ≥ 0), ())

/-- grant.sees$1 -/
noncomputable def grant_sees_1 (n : Nat) : ByteArray × (Ev.Node × Unit) × Unit → Option (Bool × (Ev.Node × Unit) × Unit) :=
  fun (a1, o2, _) => 
  (bif seq a1 (⟨#[]⟩ : ByteArray) then some (true, ((Ev.Node.mk o2.1.id o2.1.labels o2.1.props), ()), ())
  else 
  (slices_Contains_string_string n (o2.1.labels, a1, ())).bind fun (y3, _) => some (y3, ((Ev.Node.mk o2.1.id o2.1.labels o2.1.props), ()), ()))

/-- a round of a loop of slices.IndexFunc   string,string  -/
noncomputable def slices_IndexFunc_string_string_grant_sees_1_c_s0 {ρ : Type} (n : Nat) (rec : (List ByteArray) × Int × Int × (Ev.Node × Unit) × Unit → Option ρ) (kx : (Ev.Node × Unit) × Unit → Option ρ) (kr : Int × (Ev.Node × Unit) × Unit → Option ρ) : (List ByteArray) × Int × Int × (Ev.Node × Unit) × Unit → Option ρ :=
  fun (v3, v4, v5, o6, _) => 
  (bif decide ((v5 : Int) < v4) then 
  (ix v3 v5).bind fun x7 => 
  (grant_sees_1 n (x7, ((Ev.Node.mk o6.1.id o6.1.labels o6.1.props), ()), ())).bind fun (y8, o9, _) => 
  (bif y8 then kr (v5, ((Ev.Node.mk o9.1.id o9.1.labels o9.1.props), ()), ())
  else rec (v3, v4, IntKind.wrap .i64 (v5 + 1), ((Ev.Node.mk o9.1.id o9.1.labels o9.1.props), ()), ()))
  else kx (((Ev.Node.mk o6.1.id o6.1.labels o6.1.props), ()), ()))

noncomputable def F_slices_IndexFunc_string_string_grant_sees_1_c_s0 {ρ : Type} (n : Nat) (kr : Int × (Ev.Node × Unit) × Unit → Option ρ) : Int → ByteArray → ((Ev.Node × Unit) × Unit) → (((Ev.Node × Unit) × Unit) → Option ρ) → Option ρ :=
  fun v5 x7 (o6, _) rec =>  
  (grant_sees_1 n (x7, ((Ev.Node.mk o6.1.id o6.1.labels o6.1.props), ()), ())).bind fun (y8, o9, _) => 
  (bif y8 then kr (v5, ((Ev.Node.mk o9.1.id o9.1.labels o9.1.props), ()), ())
  else rec (((Ev.Node.mk o9.1.id o9.1.labels o9.1.props), ()), ()))

theorem R_slices_IndexFunc_string_string_grant_sees_1_c_s0 {ρ : Type} (n : Nat) (kx : (Ev.Node × Unit) × Unit → Option ρ) (kr : Int × (Ev.Node × Unit) × Unit → Option ρ) (l : List ByteArray) (fuel : Nat) (o6 : Ev.Node × Unit) (hl : l.length ≤ 9223372036854775807) (hf : l.length < fuel) :
    iterN (fun rc => slices_IndexFunc_string_string_grant_sees_1_c_s0 n rc kx kr) fuel (l, (l.length : Int), 0, o6, ()) = foldK (F_slices_IndexFunc_string_string_grant_sees_1_c_s0 n kr) (fun (o6, _) => kx (((Ev.Node.mk o6.1.id o6.1.labels o6.1.props), ()), ())) 0 l (o6, ()) :=
  range_listM l (fun i (o6, _) => (l, (l.length : Int), i, o6, ())) _ _ _ (fun rec i s => rfl) hl fuel (o6, ()) hf

/-- slices.IndexFunc   string,string  -/
noncomputable def slices_IndexFunc_string_string_grant_sees_1_c (n : Nat) : (List ByteArray) × (Ev.Node × Unit) × Unit → Option (Int × (Ev.Node × Unit) × Unit) :=
  fun (a1, o2, _) => 
  iterN (fun rc13 => slices_IndexFunc_string_string_grant_sees_1_c_s0 n rc13 (fun (o10, _) => some ((-1), ((Ev.Node.mk o10.1.id o10.1.labels o10.1.props), ()), ())) (fun (v11, o12, _) => some (v11, ((Ev.Node.mk o12.1.id o12.1.labels o12.1.props), ()), ()))) (n) (a1, (a1.length : Int), 0, ((Ev.Node.mk o2.1.id o2.1.labels o2.1.props), ()), ())

/-- slices.ContainsFunc   string,string  -/
noncomputable def slices_ContainsFunc_string_string_grant_sees_1_c (n : Nat) : (List ByteArray) × (Ev.Node × Unit) × Unit → Option (Bool × (Ev.Node × Unit) × Unit) :=
  fun (a1, o2, _) => 
  (slices_IndexFunc_string_string_grant_sees_1_c n (a1, ((Ev.Node.mk o2.1.id o2.1.labels o2.1.props), ()), ())).bind fun (y3, o4, _) => some (decide ((y3 : Int) ≥ 0), ((Ev.Node.mk o4.1.id o4.1.labels o4.1.props), ()), ())

/-- grant.sees -/
noncomputable def grant_sees (n : Nat) : Ev.Grant × Ev.Node × Unit → Option (Bool × Unit) :=
  fun (a1, a2, _) => 
  (slices_ContainsFunc_string_string_grant_sees_1_c n (a1.labels, ((Ev.Node.mk a2.id a2.labels a2.props), ()), ())).bind fun (y3, o4, _) => some (y3, ())

/-- slices.Clone   string,string  -/
noncomputable def slices_Clone_string_string : (List ByteArray) × Unit → Option ((List ByteArray) × Unit) :=
  fun (a1, _) => 
  nilq a1 (some (([] : List ByteArray), ())) (
  ck (room (([] : List ByteArray) ++ a1).length 16) (some (([] : List ByteArray) ++ a1, ())))

/-- a round of a loop of value.Copy -/
noncomputable def value_Copy_s0 {ρ : Type} (self_value_Copy : Ev.Val × Unit → Option (Ev.Val × Unit)) (n : Nat) (rec : (List Ev.Val) × Int × Int × (Int × Int × ByteArray × Unit) × (Ev.Val × Unit) × (List Ev.Val) × Unit → Option ρ) (kx : (Int × Int × ByteArray × Unit) × (Ev.Val × Unit) × (List Ev.Val) × Unit → Option ρ) (kr : Unit → Option ρ) : (List Ev.Val) × Int × Int × (Int × Int × ByteArray × Unit) × (Ev.Val × Unit) × (List Ev.Val) × Unit → Option ρ :=
  fun (v2, v3, v4, o5, o6, o7, _) => 
  (bif decide ((v4 : Int) < v3) then 
  (ix v2 v4).bind fun x8 => 
  (self_value_Copy ((Ev.Val.mk x8.kind x8.n x8.s x8.l), ())).bind fun (y10, _) => 
  ck (room (o7 ++ ([(Ev.Val.mk y10.kind y10.n y10.s y10.l)] : List Ev.Val)).length 56) (rec (v2, v3, IntKind.wrap .i64 (v4 + 1), (o5.1, o5.2.1, o5.2.2.1, ()), ((Ev.Val.mk o6.1.kind o6.1.n o6.1.s o6.1.l), ()), o7 ++ ([(Ev.Val.mk y10.kind y10.n y10.s y10.l)] : List Ev.Val), ()))
  else kx ((o5.1, o5.2.1, o5.2.2.1, ()), ((Ev.Val.mk o6.1.kind o6.1.n o6.1.s o6.1.l), ()), o7, ()))

noncomputable def F_value_Copy_s0 {ρ : Type} (self_value_Copy : Ev.Val × Unit → Option (Ev.Val × Unit)) (n : Nat) (kr : Unit → Option ρ) : Int → Ev.Val → ((Int × Int × ByteArray × Unit) × (Ev.Val × Unit) × (List Ev.Val) × Unit) → (((Int × Int × ByteArray × Unit) × (Ev.Val × Unit) × (List Ev.Val) × Unit) → Option ρ) → Option ρ :=
  fun v4 x8 (o5, o6, o7, _) rec =>  
  (self_value_Copy ((Ev.Val.mk x8.kind x8.n x8.s x8.l), ())).bind fun (y10, _) => 
  ck (room (o7 ++ ([(Ev.Val.mk y10.kind y10.n y10.s y10.l)] : List Ev.Val)).length 56) (rec ((o5.1, o5.2.1, o5.2.2.1, ()), ((Ev.Val.mk o6.1.kind o6.1.n o6.1.s o6.1.l), ()), o7 ++ ([(Ev.Val.mk y10.kind y10.n y10.s y10.l)] : List Ev.Val), ()))

theorem R_value_Copy_s0 {ρ : Type} (self_value_Copy : Ev.Val × Unit → Option (Ev.Val × Unit)) (n : Nat) (kx : (Int × Int × ByteArray × Unit) × (Ev.Val × Unit) × (List Ev.Val) × Unit → Option ρ) (kr : Unit → Option ρ) (l : List Ev.Val) (fuel : Nat) (o5 : Int × Int × ByteArray × Unit) (o6 : Ev.Val × Unit) (o7 : List Ev.Val) (hl : l.length ≤ 9223372036854775807) (hf : l.length < fuel) :
    iterN (fun rc => value_Copy_s0 self_value_Copy n rc kx kr) fuel (l, (l.length : Int), 0, o5, o6, o7, ()) = foldK (F_value_Copy_s0 self_value_Copy n kr) (fun (o5, o6, o7, _) => kx ((o5.1, o5.2.1, o5.2.2.1, ()), ((Ev.Val.mk o6.1.kind o6.1.n o6.1.s o6.1.l), ()), o7, ())) 0 l (o5, o6, o7, ()) :=
  range_listM l (fun i (o5, o6, o7, _) => (l, (l.length : Int), i, o5, o6, o7, ())) _ _ _ (fun rec i s => rfl) hl fuel (o5, o6, o7, ()) hf

/-- value.Copy -/
noncomputable def value_Copy_b (self_value_Copy : Ev.Val × Unit → Option (Ev.Val × Unit)) (n : Nat) : Ev.Val × Unit → Option (Ev.Val × Unit) :=
  fun (a1, _) => 
  iterN (fun rc14 => value_Copy_s0 self_value_Copy n rc14 (fun (o11, o12, o13, _) => some ((Ev.Val.mk o11.1 o11.2.1 o11.2.2.1 o13), ())) (fun (_) => none)) (n) (a1.l, (a1.l.length : Int), 0, (a1.kind, a1.n, a1.s, ()), ((Ev.Val.mk 0 0 (⟨#[]⟩ : ByteArray) ([] : List Ev.Val)), ()), ([] : List Ev.Val), ())

noncomputable def value_Copy : Nat → Ev.Val × Unit → Option (Ev.Val × Unit)
  | 0, _ => none
  | n + 1, x => value_Copy_b (value_Copy n) n x

/-- a round of a loop of graph.CopyProps -/
noncomputable def graph_CopyProps_s0 {ρ : Type} (n : Nat) (rec : (List Ev.Prp) × Int × Int × (List Ev.Prp) × Unit → Option ρ) (kx : (List Ev.Prp) × Unit → Option ρ) (kr : Unit → Option ρ) : (List Ev.Prp) × Int × Int × (List Ev.Prp) × Unit → Option ρ :=
  fun (v2, v3, v4, o5, _) => 
  (bif decide ((v4 : Int) < v3) then 
  (ix v2 v4).bind fun x6 => 
  (value_Copy n ((Ev.Val.mk x6.val.kind x6.val.n x6.val.s x6.val.l), ())).bind fun (y7, _) => 
  ck (room (o5 ++ ([(Ev.Prp.mk x6.name (Ev.Val.mk y7.kind y7.n y7.s y7.l))] : List Ev.Prp)).length 72) (rec (v2, v3, IntKind.wrap .i64 (v4 + 1), o5 ++ ([(Ev.Prp.mk x6.name (Ev.Val.mk y7.kind y7.n y7.s y7.l))] : List Ev.Prp), ()))
  else kx (o5, ()))

noncomputable def F_graph_CopyProps_s0 {ρ : Type} (n : Nat) (kr : Unit → Option ρ) : Int → Ev.Prp → ((List Ev.Prp) × Unit) → (((List Ev.Prp) × Unit) → Option ρ) → Option ρ :=
  fun v4 x6 (o5, _) rec =>  
  (value_Copy n ((Ev.Val.mk x6.val.kind x6.val.n x6.val.s x6.val.l), ())).bind fun (y7, _) => 
  ck (room (o5 ++ ([(Ev.Prp.mk x6.name (Ev.Val.mk y7.kind y7.n y7.s y7.l))] : List Ev.Prp)).length 72) (rec (o5 ++ ([(Ev.Prp.mk x6.name (Ev.Val.mk y7.kind y7.n y7.s y7.l))] : List Ev.Prp), ()))

theorem R_graph_CopyProps_s0 {ρ : Type} (n : Nat) (kx : (List Ev.Prp) × Unit → Option ρ) (kr : Unit → Option ρ) (l : List Ev.Prp) (fuel : Nat) (o5 : List Ev.Prp) (hl : l.length ≤ 9223372036854775807) (hf : l.length < fuel) :
    iterN (fun rc => graph_CopyProps_s0 n rc kx kr) fuel (l, (l.length : Int), 0, o5, ()) = foldK (F_graph_CopyProps_s0 n kr) (fun (o5, _) => kx (o5, ())) 0 l (o5, ()) :=
  range_listM l (fun i (o5, _) => (l, (l.length : Int), i, o5, ())) _ _ _ (fun rec i s => rfl) hl fuel (o5, ()) hf

/-- graph.CopyProps -/
noncomputable def graph_CopyProps (n : Nat) : (List Ev.Prp) × Unit → Option ((List Ev.Prp) × Unit) :=
  fun (a1, _) => 
  iterN (fun rc9 => graph_CopyProps_s0 n rc9 (fun (o8, _) => some (o8, ())) (fun (_) => none)) (n) (a1, (a1.length : Int), 0, ([] : List Ev.Prp), ())

/-- graph.CopyNode -/
noncomputable def graph_CopyNode (n : Nat) : Ev.Node × Unit → Option (Ev.Node × Unit) :=
  fun (a1, _) => 
  (slices_Clone_string_string (a1.labels, ())).bind fun (y2, _) => 
  (graph_CopyProps n (a1.props, ())).bind fun (y3, _) => some ((Ev.Node.mk a1.id y2 y3), ())

/-- graph.CopyEdge -/
noncomputable def graph_CopyEdge (n : Nat) : Ev.Edg × Unit → Option (Ev.Edg × Unit) :=
  fun (a1, _) => 
  (graph_CopyProps n (a1.props, ())).bind fun (y2, _) => some ((Ev.Edg.mk a1.id a1.src a1.dst a1.type y2), ())

/-- a round of a loop of grant.See -/
noncomputable def grant_See_s0 {ρ : Type} (n : Nat) (rec : (List Ev.Grant) × Int × (List Ev.Node) × Int × Int × (Ev.Graph × Unit) × (Ev.Graph × Unit) × (Int × Unit) × (List Ev.Node) × Unit → Option ρ) (kx : (Ev.Graph × Unit) × (Ev.Graph × Unit) × (Int × Unit) × (List Ev.Node) × Unit → Option ρ) (kr : Unit → Option ρ) : (List Ev.Grant) × Int × (List Ev.Node) × Int × Int × (Ev.Graph × Unit) × (Ev.Graph × Unit) × (Int × Unit) × (List Ev.Node) × Unit → Option ρ :=
  fun (v8, v9, v10, v11, v12, o13, o14, o15, o16, _) => 
  (bif decide ((v12 : Int) < v11) then 
  (ix v10 v12).bind fun x17 => 
  (ix v8 v9).bind fun x19 => 
  (grant_sees n ((Ev.Grant.mk x19.who x19.labels), (Ev.Node.mk x17.id x17.labels x17.props), ())).bind fun (y20, _) => 
  (bif y20 then 
  (graph_CopyNode n ((Ev.Node.mk x17.id x17.labels x17.props), ())).bind fun (y22, _) => 
  ck (room (o16 ++ ([(Ev.Node.mk y22.id y22.labels y22.props)] : List Ev.Node)).length 56) (rec (v8, v9, v10, v11, IntKind.wrap .i64 (v12 + 1), ((Ev.Graph.mk o13.1.nodes o13.1.edges o13.1.next), ()), ((Ev.Graph.mk o14.1.nodes o14.1.edges o14.1.next), ()), (o15.1, ()), o16 ++ ([(Ev.Node.mk y22.id y22.labels y22.props)] : List Ev.Node), ()))
  else rec (v8, v9, v10, v11, IntKind.wrap .i64 (v12 + 1), ((Ev.Graph.mk o13.1.nodes o13.1.edges o13.1.next), ()), ((Ev.Graph.mk o14.1.nodes o14.1.edges o14.1.next), ()), (o15.1, ()), o16, ()))
  else kx (((Ev.Graph.mk o13.1.nodes o13.1.edges o13.1.next), ()), ((Ev.Graph.mk o14.1.nodes o14.1.edges o14.1.next), ()), (o15.1, ()), o16, ()))

/-- a round of a loop of grant.See -/
noncomputable def grant_See_s2 {ρ : Type} (n : Nat) (rec : (List Ev.Edg) × Int × Int × (Ev.Graph × Unit) × (Int × Unit) × (List Ev.Node) × (List Ev.Edg) × Unit → Option ρ) (kx : (Ev.Graph × Unit) × (Int × Unit) × (List Ev.Node) × (List Ev.Edg) × Unit → Option ρ) (kr : Unit → Option ρ) : (List Ev.Edg) × Int × Int × (Ev.Graph × Unit) × (Int × Unit) × (List Ev.Node) × (List Ev.Edg) × Unit → Option ρ :=
  fun (v27, v28, v29, o30, o31, o32, o33, _) => 
  (bif decide ((v29 : Int) < v28) then 
  (ix v27 v29).bind fun x34 => 
  (graph_Find n ((Ev.Graph.mk o32 o33 o31.1), x34.src, ())).bind fun (y35, _) => 
  (bif decide ((y35 : Int) ≥ 0) then 
  (graph_Find n ((Ev.Graph.mk o32 o33 o31.1), x34.dst, ())).bind fun (y36, _) => 
  (bif decide ((y36 : Int) ≥ 0) then 
  (graph_CopyEdge n ((Ev.Edg.mk x34.id x34.src x34.dst x34.type x34.props), ())).bind fun (y38, _) => 
  ck (room (o33 ++ ([(Ev.Edg.mk y38.id y38.src y38.dst y38.type y38.props)] : List Ev.Edg)).length 64) (rec (v27, v28, IntKind.wrap .i64 (v29 + 1), ((Ev.Graph.mk o30.1.nodes o30.1.edges o30.1.next), ()), (o31.1, ()), o32, o33 ++ ([(Ev.Edg.mk y38.id y38.src y38.dst y38.type y38.props)] : List Ev.Edg), ()))
  else rec (v27, v28, IntKind.wrap .i64 (v29 + 1), ((Ev.Graph.mk o30.1.nodes o30.1.edges o30.1.next), ()), (o31.1, ()), o32, o33, ()))
  else rec (v27, v28, IntKind.wrap .i64 (v29 + 1), ((Ev.Graph.mk o30.1.nodes o30.1.edges o30.1.next), ()), (o31.1, ()), o32, o33, ()))
  else kx (((Ev.Graph.mk o30.1.nodes o30.1.edges o30.1.next), ()), (o31.1, ()), o32, o33, ()))

noncomputable def F_grant_See_s0 {ρ : Type} (n : Nat) (kr : Unit → Option ρ) : Int → Ev.Node → ((List Ev.Grant) × Int × (Ev.Graph × Unit) × (Ev.Graph × Unit) × (Int × Unit) × (List Ev.Node) × Unit) → (((List Ev.Grant) × Int × (Ev.Graph × Unit) × (Ev.Graph × Unit) × (Int × Unit) × (List Ev.Node) × Unit) → Option ρ) → Option ρ :=
  fun v12 x17 (v8, v9, o13, o14, o15, o16, _) rec =>  
  (ix v8 v9).bind fun x19 => 
  (grant_sees n ((Ev.Grant.mk x19.who x19.labels), (Ev.Node.mk x17.id x17.labels x17.props), ())).bind fun (y20, _) => 
  (bif y20 then 
  (graph_CopyNode n ((Ev.Node.mk x17.id x17.labels x17.props), ())).bind fun (y22, _) => 
  ck (room (o16 ++ ([(Ev.Node.mk y22.id y22.labels y22.props)] : List Ev.Node)).length 56) (rec (v8, v9, ((Ev.Graph.mk o13.1.nodes o13.1.edges o13.1.next), ()), ((Ev.Graph.mk o14.1.nodes o14.1.edges o14.1.next), ()), (o15.1, ()), o16 ++ ([(Ev.Node.mk y22.id y22.labels y22.props)] : List Ev.Node), ()))
  else rec (v8, v9, ((Ev.Graph.mk o13.1.nodes o13.1.edges o13.1.next), ()), ((Ev.Graph.mk o14.1.nodes o14.1.edges o14.1.next), ()), (o15.1, ()), o16, ()))

theorem R_grant_See_s0 {ρ : Type} (n : Nat) (kx : (Ev.Graph × Unit) × (Ev.Graph × Unit) × (Int × Unit) × (List Ev.Node) × Unit → Option ρ) (kr : Unit → Option ρ) (l : List Ev.Node) (fuel : Nat) (v8 : List Ev.Grant) (v9 : Int) (o13 : Ev.Graph × Unit) (o14 : Ev.Graph × Unit) (o15 : Int × Unit) (o16 : List Ev.Node) (hl : l.length ≤ 9223372036854775807) (hf : l.length < fuel) :
    iterN (fun rc => grant_See_s0 n rc kx kr) fuel (v8, v9, l, (l.length : Int), 0, o13, o14, o15, o16, ()) = foldK (F_grant_See_s0 n kr) (fun (v8, v9, o13, o14, o15, o16, _) => kx (((Ev.Graph.mk o13.1.nodes o13.1.edges o13.1.next), ()), ((Ev.Graph.mk o14.1.nodes o14.1.edges o14.1.next), ()), (o15.1, ()), o16, ())) 0 l (v8, v9, o13, o14, o15, o16, ()) :=
  range_listM l (fun i (v8, v9, o13, o14, o15, o16, _) => (v8, v9, l, (l.length : Int), i, o13, o14, o15, o16, ())) _ _ _ (fun rec i s => rfl) hl fuel (v8, v9, o13, o14, o15, o16, ()) hf

noncomputable def F_grant_See_s2 {ρ : Type} (n : Nat) (kr : Unit → Option ρ) : Int → Ev.Edg → ((Ev.Graph × Unit) × (Int × Unit) × (List Ev.Node) × (List Ev.Edg) × Unit) → (((Ev.Graph × Unit) × (Int × Unit) × (List Ev.Node) × (List Ev.Edg) × Unit) → Option ρ) → Option ρ :=
  fun v29 x34 (o30, o31, o32, o33, _) rec =>  
  (graph_Find n ((Ev.Graph.mk o32 o33 o31.1), x34.src, ())).bind fun (y35, _) => 
  (bif decide ((y35 : Int) ≥ 0) then 
  (graph_Find n ((Ev.Graph.mk o32 o33 o31.1), x34.dst, ())).bind fun (y36, _) => 
  (bif decide ((y36 : Int) ≥ 0) then 
  (graph_CopyEdge n ((Ev.Edg.mk x34.id x34.src x34.dst x34.type x34.props), ())).bind fun (y38, _) => 
  ck (room (o33 ++ ([(Ev.Edg.mk y38.id y38.src y38.dst y38.type y38.props)] : List Ev.Edg)).length 64) (rec (((Ev.Graph.mk o30.1.nodes o30.1.edges o30.1.next), ()), (o31.1, ()), o32, o33 ++ ([(Ev.Edg.mk y38.id y38.src y38.dst y38.type y38.props)] : List Ev.Edg), ()))
  else rec (((Ev.Graph.mk o30.1.nodes o30.1.edges o30.1.next), ()), (o31.1, ()), o32, o33, ()))
  else rec (((Ev.Graph.mk o30.1.nodes o30.1.edges o30.1.next), ()), (o31.1, ()), o32, o33, ()))

theorem R_grant_See_s2 {ρ : Type} (n : Nat) (kx : (Ev.Graph × Unit) × (Int × Unit) × (List Ev.Node) × (List Ev.Edg) × Unit → Option ρ) (kr : Unit → Option ρ) (l : List Ev.Edg) (fuel : Nat) (o30 : Ev.Graph × Unit) (o31 : Int × Unit) (o32 : List Ev.Node) (o33 : List Ev.Edg) (hl : l.length ≤ 9223372036854775807) (hf : l.length < fuel) :
    iterN (fun rc => grant_See_s2 n rc kx kr) fuel (l, (l.length : Int), 0, o30, o31, o32, o33, ()) = foldK (F_grant_See_s2 n kr) (fun (o30, o31, o32, o33, _) => kx (((Ev.Graph.mk o30.1.nodes o30.1.edges o30.1.next), ()), (o31.1, ()), o32, o33, ())) 0 l (o30, o31, o32, o33, ()) :=
  range_listM l (fun i (o30, o31, o32, o33, _) => (l, (l.length : Int), i, o30, o31, o32, o33, ())) _ _ _ (fun rec i s => rfl) hl fuel (o30, o31, o32, o33, ()) hf

/-- grant.See -/
noncomputable def grant_See (n : Nat) : (List Ev.Grant) × ByteArray × Ev.Graph × Unit → Option (Ev.Graph × Int × Unit) :=
  fun (a1, a2, a3, _) => 
  (grant_Check n (a1, ())).bind fun (y4, _) => 
  (bif (y4 : Int) != 0 then some ((Ev.Graph.mk ([] : List Ev.Node) ([] : List Ev.Edg) 0), y4, ())
  else 
  (graph_Check n ((Ev.Graph.mk a3.nodes a3.edges a3.next), ())).bind fun (y5, _) => 
  (bif (y5 : Int) != 0 then some ((Ev.Graph.mk ([] : List Ev.Node) ([] : List Ev.Edg) 0), y5, ())
  else 
  (slices_IndexFunc_api_Grant_api_Grant_grant_See_1_c n (a1, (a2, ()), ())).bind fun (y6, o7, _) => 
  (bif decide ((y6 : Int) < 0) then some ((Ev.Graph.mk ([] : List Ev.Node) ([] : List Ev.Edg) 0), 12, ())
  else 
  iterN (fun rc44 => grant_See_s0 n rc44 (fun (o23, o24, o25, o26, _) => 
  iterN (fun rc43 => grant_See_s2 n rc43 (fun (o39, o40, o41, o42, _) => some ((Ev.Graph.mk o41 o42 o40.1), 0, ())) (fun (_) => none)) (n) (o23.1.edges, (o23.1.edges.length : Int), 0, ((Ev.Graph.mk o24.1.nodes o24.1.edges o24.1.next), ()), (o25.1, ()), o26, ([] : List Ev.Edg), ())) (fun (_) => none)) (n) (a1, y6, a3.nodes, (a3.nodes.length : Int), 0, ((Ev.Graph.mk a3.nodes a3.edges a3.next), ()), ((Ev.Graph.mk ([] : List Ev.Node) ([] : List Ev.Edg) 0), ()), (a3.next, ()), ([] : List Ev.Node), ()))))

/-- espalierref.IsName -/
noncomputable def espalierref_IsName : ByteArray × Unit → Option (Bool × Unit) :=
  fun (a1, _) => 
  (bif (seq a1 (⟨#[]⟩ : ByteArray)) || (decide (((a1.size : Int) : Int) > 12)) then some (false, ())
  else 
  (sat a1 0).bind fun c2 => 
  (bif decide ((c2 : Int) ≥ 48) then 
  (sat a1 0).bind fun c3 => 
  (bif decide ((c3 : Int) ≤ 57) then some (false, ())
  else 
  (trimN (a1, (⟨#[97, 98, 99, 100, 101, 102, 103, 104, 105, 106, 107, 108, 109, 110, 111, 112, 113, 114, 115, 116, 117, 118, 119, 120, 121, 122, 65, 66, 67, 68, 69, 70, 71, 72, 73, 74, 75, 76, 77, 78, 79, 80, 81, 82, 83, 84, 85, 86, 87, 88, 89, 90, 48, 49, 50, 51, 52, 53, 54, 55, 56, 57, 95]⟩ : ByteArray), ())).bind fun (y4, _) => some (seq y4 (⟨#[]⟩ : ByteArray), ()))
  else 
  (trimN (a1, (⟨#[97, 98, 99, 100, 101, 102, 103, 104, 105, 106, 107, 108, 109, 110, 111, 112, 113, 114, 115, 116, 117, 118, 119, 120, 121, 122, 65, 66, 67, 68, 69, 70, 71, 72, 73, 74, 75, 76, 77, 78, 79, 80, 81, 82, 83, 84, 85, 86, 87, 88, 89, 90, 48, 49, 50, 51, 52, 53, 54, 55, 56, 57, 95]⟩ : ByteArray), ())).bind fun (y5, _) => some (seq y5 (⟨#[]⟩ : ByteArray), ())))

/-- a round of a loop of espalierlaw.checkGrants -/
noncomputable def espalierlaw_checkGrants_s2 {ρ : Type} (n : Nat) (rec : (List Ev.Grant) × (List Ev.Grant) × Int × Int × (List Ev.Grant) × Int × Int × (Ev.Grant × Unit) × Unit → Option ρ) (kx : (List Ev.Grant) × (List Ev.Grant) × Int × Int × (Ev.Grant × Unit) × Unit → Option ρ) (kr : Int × Unit → Option ρ) : (List Ev.Grant) × (List Ev.Grant) × Int × Int × (List Ev.Grant) × Int × Int × (Ev.Grant × Unit) × Unit → Option ρ :=
  fun (v9, v10, v11, v12, v13, v14, v15, o16, _) => 
  (bif decide ((v15 : Int) < v14) then 
  (ix v13 v15).bind fun x17 => 
  (bif seq x17.who o16.1.who then kr (7, ())
  else rec (v9, v10, v11, v12, v13, v14, IntKind.wrap .i64 (v15 + 1), ((Ev.Grant.mk o16.1.who o16.1.labels), ()), ()))
  else kx (v9, v10, v11, v12, ((Ev.Grant.mk o16.1.who o16.1.labels), ()), ()))

/-- a round of a loop of espalierlaw.checkGrants -/
noncomputable def espalierlaw_checkGrants_s4 {ρ : Type} (n : Nat) (rec : (List Ev.Grant) × (List Ev.Grant) × Int × Int × (List ByteArray) × Int × Int × Unit → Option ρ) (kx : (List Ev.Grant) × (List Ev.Grant) × Int × Int × Unit → Option ρ) (kr : Int × Unit → Option ρ) : (List Ev.Grant) × (List Ev.Grant) × Int × Int × (List ByteArray) × Int × Int × Unit → Option ρ :=
  fun (v24, v25, v26, v27, v28, v29, v30, _) => 
  (bif decide ((v30 : Int) < v29) then 
  (ix v28 v30).bind fun x31 => 
  (bif !(seq x31 (⟨#[]⟩ : ByteArray)) then 
  (espalierref_IsName (x31, ())).bind fun (y32, _) => 
  (bif !y32 then kr (6, ())
  else rec (v24, v25, v26, v27, v28, v29, IntKind.wrap .i64 (v30 + 1), ()))
  else rec (v24, v25, v26, v27, v28, v29, IntKind.wrap .i64 (v30 + 1), ()))
  else kx (v24, v25, v26, v27, ()))

/-- a round of a loop of espalierlaw.checkGrants -/
noncomputable def espalierlaw_checkGrants_s0 {ρ : Type} (n : Nat) (rec : (List Ev.Grant) × (List Ev.Grant) × Int × Int × Unit → Option ρ) (kx : Unit → Option ρ) (kr : Int × Unit → Option ρ) : (List Ev.Grant) × (List Ev.Grant) × Int × Int × Unit → Option ρ :=
  fun (v2, v3, v4, v5, _) => 
  (bif decide ((v5 : Int) < v4) then 
  (ix v3 v5).bind fun x6 => 
  (espalierref_IsName (x6.who, ())).bind fun (y7, _) => 
  (bif !y7 then kr (6, ())
  else 
  (lsl v2 0 v5).bind fun l8 => 
  iterN (fun rc39 => espalierlaw_checkGrants_s2 n rc39 (fun (v18, v19, v20, v21, o22, _) => 
  (bif decide (((o22.1.labels.length : Int) : Int) > 4) then kr (2, ())
  else 
  iterN (fun rc38 => espalierlaw_checkGrants_s4 n rc38 (fun (v33, v34, v35, v36, _) => rec (v33, v34, v35, IntKind.wrap .i64 (v36 + 1), ())) (fun (v37, _) => kr (v37, ()))) (n) (v18, v19, v20, v21, o22.1.labels, (o22.1.labels.length : Int), 0, ()))) (fun (v23, _) => kr (v23, ()))) (n) (v2, v3, v4, v5, l8, (l8.length : Int), 0, ((Ev.Grant.mk x6.who x6.labels), ()), ()))
  else kx (()))

noncomputable def F_espalierlaw_checkGrants_s2 {ρ : Type} (n : Nat) (kr : Int × Unit → Option ρ) : Int → Ev.Grant → ((List Ev.Grant) × (List Ev.Grant) × Int × Int × (Ev.Grant × Unit) × Unit) → (((List Ev.Grant) × (List Ev.Grant) × Int × Int × (Ev.Grant × Unit) × Unit) → Option ρ) → Option ρ :=
  fun v15 x17 (v9, v10, v11, v12, o16, _) rec =>  
  (bif seq x17.who o16.1.who then kr (7, ())
  else rec (v9, v10, v11, v12, ((Ev.Grant.mk o16.1.who o16.1.labels), ()), ()))

theorem R_espalierlaw_checkGrants_s2 {ρ : Type} (n : Nat) (kx : (List Ev.Grant) × (List Ev.Grant) × Int × Int × (Ev.Grant × Unit) × Unit → Option ρ) (kr : Int × Unit → Option ρ) (l : List Ev.Grant) (fuel : Nat) (v9 : List Ev.Grant) (v10 : List Ev.Grant) (v11 : Int) (v12 : Int) (o16 : Ev.Grant × Unit) (hl : l.length ≤ 9223372036854775807) (hf : l.length < fuel) :
    iterN (fun rc => espalierlaw_checkGrants_s2 n rc kx kr) fuel (v9, v10, v11, v12, l, (l.length : Int), 0, o16, ()) = foldK (F_espalierlaw_checkGrants_s2 n kr) (fun (v9, v10, v11, v12, o16, _) => kx (v9, v10, v11, v12, ((Ev.Grant.mk o16.1.who o16.1.labels), ()), ())) 0 l (v9, v10, v11, v12, o16, ()) :=
  range_listM l (fun i (v9, v10, v11, v12, o16, _) => (v9, v10, v11, v12, l, (l.length : Int), i, o16, ())) _ _ _ (fun rec i s => rfl) hl fuel (v9, v10, v11, v12, o16, ()) hf

noncomputable def F_espalierlaw_checkGrants_s4 {ρ : Type} (n : Nat) (kr : Int × Unit → Option ρ) : Int → ByteArray → ((List Ev.Grant) × (List Ev.Grant) × Int × Int × Unit) → (((List Ev.Grant) × (List Ev.Grant) × Int × Int × Unit) → Option ρ) → Option ρ :=
  fun v30 x31 (v24, v25, v26, v27, _) rec =>  
  (bif !(seq x31 (⟨#[]⟩ : ByteArray)) then 
  (espalierref_IsName (x31, ())).bind fun (y32, _) => 
  (bif !y32 then kr (6, ())
  else rec (v24, v25, v26, v27, ()))
  else rec (v24, v25, v26, v27, ()))

theorem R_espalierlaw_checkGrants_s4 {ρ : Type} (n : Nat) (kx : (List Ev.Grant) × (List Ev.Grant) × Int × Int × Unit → Option ρ) (kr : Int × Unit → Option ρ) (l : List ByteArray) (fuel : Nat) (v24 : List Ev.Grant) (v25 : List Ev.Grant) (v26 : Int) (v27 : Int) (hl : l.length ≤ 9223372036854775807) (hf : l.length < fuel) :
    iterN (fun rc => espalierlaw_checkGrants_s4 n rc kx kr) fuel (v24, v25, v26, v27, l, (l.length : Int), 0, ()) = foldK (F_espalierlaw_checkGrants_s4 n kr) (fun (v24, v25, v26, v27, _) => kx (v24, v25, v26, v27, ())) 0 l (v24, v25, v26, v27, ()) :=
  range_listM l (fun i (v24, v25, v26, v27, _) => (v24, v25, v26, v27, l, (l.length : Int), i, ())) _ _ _ (fun rec i s => rfl) hl fuel (v24, v25, v26, v27, ()) hf

/-- espalierlaw.checkGrants -/
noncomputable def espalierlaw_checkGrants (n : Nat) : (List Ev.Grant) × Unit → Option (Int × Unit) :=
  fun (a1, _) => 
  (bif decide (((a1.length : Int) : Int) > 4) then some (2, ())
  else 
  iterN (fun rc41 => espalierlaw_checkGrants_s0 n rc41 (fun (_) => some (0, ())) (fun (v40, _) => some (v40, ()))) (n) (a1, a1, (a1.length : Int), 0, ()))

/-- a round of a loop of espalierref.CheckLabels -/
noncomputable def espalierref_CheckLabels_s0 {ρ : Type} (n : Nat) (rec : ByteArray × (List ByteArray) × Int × Int × Unit → Option ρ) (kx : Unit → Option ρ) (kr : Int × Unit → Option ρ) : ByteArray × (List ByteArray) × Int × Int × Unit → Option ρ :=
  fun (v2, v3, v4, v5, _) => 
  (bif decide ((v5 : Int) < v4) then 
  (ix v3 v5).bind fun x6 => 
  (espalierref_IsName (x6, ())).bind fun (y7, _) => 
  (bif (!y7) || (sless x6 v2 || seq x6 v2) then kr (6, ())
  else rec (x6, v3, v4, IntKind.wrap .i64 (v5 + 1), ()))
  else kx (()))

noncomputable def F_espalierref_CheckLabels_s0 {ρ : Type} (n : Nat) (kr : Int × Unit → Option ρ) : Int → ByteArray → (ByteArray × Unit) → ((ByteArray × Unit) → Option ρ) → Option ρ :=
  fun v5 x6 (v2, _) rec =>  
  (espalierref_IsName (x6, ())).bind fun (y7, _) => 
  (bif (!y7) || (sless x6 v2 || seq x6 v2) then kr (6, ())
  else rec (x6, ()))

theorem R_espalierref_CheckLabels_s0 {ρ : Type} (n : Nat) (kx : Unit → Option ρ) (kr : Int × Unit → Option ρ) (l : List ByteArray) (fuel : Nat) (v2 : ByteArray) (hl : l.length ≤ 9223372036854775807) (hf : l.length < fuel) :
    iterN (fun rc => espalierref_CheckLabels_s0 n rc kx kr) fuel (v2, l, (l.length : Int), 0, ()) = foldK (F_espalierref_CheckLabels_s0 n kr) (fun (v2, _) => kx (())) 0 l (v2, ()) :=
  range_listM l (fun i (v2, _) => (v2, l, (l.length : Int), i, ())) _ _ _ (fun rec i s => rfl) hl fuel (v2, ()) hf

/-- espalierref.CheckLabels -/
noncomputable def espalierref_CheckLabels (n : Nat) : (List ByteArray) × Unit → Option (Int × Unit) :=
  fun (a1, _) => 
  (bif decide (((a1.length : Int) : Int) > 4) then some (2, ())
  else 
  iterN (fun rc9 => espalierref_CheckLabels_s0 n rc9 (fun (_) => some (0, ())) (fun (v8, _) => some (v8, ()))) (n) ((⟨#[]⟩ : ByteArray), a1, (a1.length : Int), 0, ()))

/-- a round of a loop of espalierref.CheckValue -/
noncomputable def espalierref_CheckValue_s1 {ρ : Type} (self_espalierref_CheckValue : Ev.Val × Int × Unit → Option (Int × Unit)) (n : Nat) (rec : Int × Bool × Bool × (List Ev.Val) × Int × Int × Unit → Option ρ) (kx : Bool × Bool × Unit → Option ρ) (kr : Int × Unit → Option ρ) : Int × Bool × Bool × (List Ev.Val) × Int × Int × Unit → Option ρ :=
  fun (v3, v4, v5, v6, v7, v8, _) => 
  (bif decide ((v8 : Int) < v7) then 
  (ix v6 v8).bind fun x9 => 
  (self_espalierref_CheckValue ((Ev.Val.mk x9.kind x9.n x9.s x9.l), IntKind.wrap .i64 (v3 + 1), ())).bind fun (y10, _) => 
  (bif (y10 : Int) != 0 then kr (y10, ())
  else rec (v3, v4, v5, v6, v7, IntKind.wrap .i64 (v8 + 1), ()))
  else kx (v4, v5, ()))

noncomputable def F_espalierref_CheckValue_s1 {ρ : Type} (self_espalierref_CheckValue : Ev.Val × Int × Unit → Option (Int × Unit)) (n : Nat) (kr : Int × Unit → Option ρ) : Int → Ev.Val → (Int × Bool × Bool × Unit) → ((Int × Bool × Bool × Unit) → Option ρ) → Option ρ :=
  fun v8 x9 (v3, v4, v5, _) rec =>  
  (self_espalierref_CheckValue ((Ev.Val.mk x9.kind x9.n x9.s x9.l), IntKind.wrap .i64 (v3 + 1), ())).bind fun (y10, _) => 
  (bif (y10 : Int) != 0 then kr (y10, ())
  else rec (v3, v4, v5, ()))

theorem R_espalierref_CheckValue_s1 {ρ : Type} (self_espalierref_CheckValue : Ev.Val × Int × Unit → Option (Int × Unit)) (n : Nat) (kx : Bool × Bool × Unit → Option ρ) (kr : Int × Unit → Option ρ) (l : List Ev.Val) (fuel : Nat) (v3 : Int) (v4 : Bool) (v5 : Bool) (hl : l.length ≤ 9223372036854775807) (hf : l.length < fuel) :
    iterN (fun rc => espalierref_CheckValue_s1 self_espalierref_CheckValue n rc kx kr) fuel (v3, v4, v5, l, (l.length : Int), 0, ()) = foldK (F_espalierref_CheckValue_s1 self_espalierref_CheckValue n kr) (fun (v3, v4, v5, _) => kx (v4, v5, ())) 0 l (v3, v4, v5, ()) :=
  range_listM l (fun i (v3, v4, v5, _) => (v3, v4, v5, l, (l.length : Int), i, ())) _ _ _ (fun rec i s => rfl) hl fuel (v3, v4, v5, ()) hf

/-- espalierref.CheckValue -/
noncomputable def espalierref_CheckValue_b (self_espalierref_CheckValue : Ev.Val × Int × Unit → Option (Int × Unit)) (n : Nat) : Ev.Val × Int × Unit → Option (Int × Unit) :=
  fun (a1, a2, _) => 
  (bif (a1.kind : Int) == 4 then 
  (bif (decide (((a1.l.length : Int) : Int) > 30)) || (decide ((a2 : Int) > 6)) then some (2, ())
  else 
  iterN (fun rc14 => espalierref_CheckValue_s1 self_espalierref_CheckValue n rc14 (fun (v11, v12, _) => 
  (bif v11 && v12 then some (0, ())
  else some (6, ()))) (fun (v13, _) => some (v13, ()))) (n) (a2, (a1.n : Int) == 0, seq a1.s (⟨#[]⟩ : ByteArray), a1.l, (a1.l.length : Int), 0, ()))
  else 
  (bif (a1.kind : Int) == 3 then 
  (bif decide (((a1.s.size : Int) : Int) > 4000) then some (2, ())
  else 
  (bif ((a1.n : Int) == 0) && (((a1.l.length : Int) : Int) == 0) then 
  (validN (a1.s, ())).bind fun (y15, _) => 
  (bif y15 then some (0, ())
  else some (6, ()))
  else some (6, ())))
  else 
  (bif (a1.kind : Int) == 0 then 
  (bif (((a1.n : Int) == 0) && (seq a1.s (⟨#[]⟩ : ByteArray))) && (((a1.l.length : Int) : Int) == 0) then some (0, ())
  else some (6, ()))
  else 
  (bif (a1.kind : Int) == 1 then 
  (bif ((((a1.n : Int) == 0) || ((a1.n : Int) == 1)) && (seq a1.s (⟨#[]⟩ : ByteArray))) && (((a1.l.length : Int) : Int) == 0) then some (0, ())
  else some (6, ()))
  else 
  (bif (a1.kind : Int) == 2 then 
  (bif (seq a1.s (⟨#[]⟩ : ByteArray)) && (((a1.l.length : Int) : Int) == 0) then some (0, ())
  else some (6, ()))
  else some (6, ()))))))

noncomputable def espalierref_CheckValue : Nat → Ev.Val × Int × Unit → Option (Int × Unit)
  | 0, _ => none
  | n + 1, x => espalierref_CheckValue_b (espalierref_CheckValue n) n x

/-- a round of a loop of espalierref.CheckProps -/
noncomputable def espalierref_CheckProps_s0 {ρ : Type} (n : Nat) (rec : ByteArray × (List Ev.Prp) × Int × Int × Unit → Option ρ) (kx : Unit → Option ρ) (kr : Int × Unit → Option ρ) : ByteArray × (List Ev.Prp) × Int × Int × Unit → Option ρ :=
  fun (v2, v3, v4, v5, _) => 
  (bif decide ((v5 : Int) < v4) then 
  (ix v3 v5).bind fun x6 => 
  (espalierref_IsName (x6.name, ())).bind fun (y7, _) => 
  (bif ((!y7) || (sless x6.name v2 || seq x6.name v2)) || ((x6.val.kind : Int) == 0) then kr (6, ())
  else 
  (espalierref_CheckValue n ((Ev.Val.mk x6.val.kind x6.val.n x6.val.s x6.val.l), 1, ())).bind fun (y8, _) => 
  (bif (y8 : Int) != 0 then kr (y8, ())
  else rec (x6.name, v3, v4, IntKind.wrap .i64 (v5 + 1), ())))
  else kx (()))

noncomputable def F_espalierref_CheckProps_s0 {ρ : Type} (n : Nat) (kr : Int × Unit → Option ρ) : Int → Ev.Prp → (ByteArray × Unit) → ((ByteArray × Unit) → Option ρ) → Option ρ :=
  fun v5 x6 (v2, _) rec =>  
  (espalierref_IsName (x6.name, ())).bind fun (y7, _) => 
  (bif ((!y7) || (sless x6.name v2 || seq x6.name v2)) || ((x6.val.kind : Int) == 0) then kr (6, ())
  else 
  (espalierref_CheckValue n ((Ev.Val.mk x6.val.kind x6.val.n x6.val.s x6.val.l), 1, ())).bind fun (y8, _) => 
  (bif (y8 : Int) != 0 then kr (y8, ())
  else rec (x6.name, ())))

theorem R_espalierref_CheckProps_s0 {ρ : Type} (n : Nat) (kx : Unit → Option ρ) (kr : Int × Unit → Option ρ) (l : List Ev.Prp) (fuel : Nat) (v2 : ByteArray) (hl : l.length ≤ 9223372036854775807) (hf : l.length < fuel) :
    iterN (fun rc => espalierref_CheckProps_s0 n rc kx kr) fuel (v2, l, (l.length : Int), 0, ()) = foldK (F_espalierref_CheckProps_s0 n kr) (fun (v2, _) => kx (())) 0 l (v2, ()) :=
  range_listM l (fun i (v2, _) => (v2, l, (l.length : Int), i, ())) _ _ _ (fun rec i s => rfl) hl fuel (v2, ()) hf

/-- espalierref.CheckProps -/
noncomputable def espalierref_CheckProps (n : Nat) : (List Ev.Prp) × Unit → Option (Int × Unit) :=
  fun (a1, _) => 
  (bif decide (((a1.length : Int) : Int) > 6) then some (2, ())
  else 
  iterN (fun rc10 => espalierref_CheckProps_s0 n rc10 (fun (_) => some (0, ())) (fun (v9, _) => some (v9, ()))) (n) ((⟨#[]⟩ : ByteArray), a1, (a1.length : Int), 0, ()))

/-- a round of a loop of espalierref.NodeAt -/
noncomputable def espalierref_NodeAt_s0 {ρ : Type} (n : Nat) (rec : Int × Int × Int × (Ev.Graph × Unit) × Unit → Option ρ) (kx : Unit → Option ρ) (kr : Ev.Node × Unit → Option ρ) : Int × Int × Int × (Ev.Graph × Unit) × Unit → Option ρ :=
  fun (v3, v4, v5, o6, _) => 
  (bif decide ((v5 : Int) < v4) then 
  (ix o6.1.nodes v5).bind fun x7 => 
  (bif (x7.id : Int) == v3 then 
  (ix o6.1.nodes v5).bind fun x8 => kr ((Ev.Node.mk x8.id x8.labels x8.props), ())
  else rec (v3, v4, IntKind.wrap .i64 (v5 + 1), ((Ev.Graph.mk o6.1.nodes o6.1.edges o6.1.next), ()), ()))
  else kx (()))

/-- espalierref.NodeAt -/
noncomputable def espalierref_NodeAt (n : Nat) : Ev.Graph × Int × Unit → Option ((Option Ev.Node) × Unit) :=
  fun (a1, a2, _) => 
  iterN (fun rc10 => espalierref_NodeAt_s0 n rc10 (fun (_) => some (none, ())) (fun (v9, _) => some (some (Ev.Node.mk v9.id v9.labels v9.props), ()))) (n) (a2, (a1.nodes.length : Int), 0, ((Ev.Graph.mk a1.nodes a1.edges a1.next), ()), ())

/-- a round of a loop of espalierref.CheckGraph -/
noncomputable def espalierref_CheckGraph_s0 {ρ : Type} (n : Nat) (rec : Int × Int × (List Ev.Node) × Int × Int × (Ev.Graph × Unit) × Unit → Option ρ) (kx : Int × (Ev.Graph × Unit) × Unit → Option ρ) (kr : Int × Unit → Option ρ) : Int × Int × (List Ev.Node) × Int × Int × (Ev.Graph × Unit) × Unit → Option ρ :=
  fun (v2, v3, v4, v5, v6, o7, _) => 
  (bif decide ((v6 : Int) < v5) then 
  (ix v4 v6).bind fun x8 => 
  (bif decide ((x8.id : Int) ≤ v3) then kr (6, ())
  else 
  (espalierref_CheckLabels n (x8.labels, ())).bind fun (y9, _) => 
  (bif (y9 : Int) != 0 then kr (y9, ())
  else 
  (espalierref_CheckProps n (x8.props, ())).bind fun (y10, _) => 
  (bif (y10 : Int) != 0 then kr (y10, ())
  else rec (x8.id, x8.id, v4, v5, IntKind.wrap .i64 (v6 + 1), ((Ev.Graph.mk o7.1.nodes o7.1.edges o7.1.next), ()), ()))))
  else kx (v2, ((Ev.Graph.mk o7.1.nodes o7.1.edges o7.1.next), ()), ()))

/-- a round of a loop of espalierref.CheckGraph -/
noncomputable def espalierref_CheckGraph_s2 {ρ : Type} (n : Nat) (rec : Int × Int × (List Ev.Edg) × Int × Int × (Ev.Graph × Unit) × Unit → Option ρ) (kx : Int × (Ev.Graph × Unit) × Unit → Option ρ) (kr : Int × Unit → Option ρ) : Int × Int × (List Ev.Edg) × Int × Int × (Ev.Graph × Unit) × Unit → Option ρ :=
  fun (v14, v15, v16, v17, v18, o19, _) => 
  (bif decide ((v18 : Int) < v17) then 
  (ix v16 v18).bind fun x20 => 
  (bif decide ((x20.id : Int) ≤ v15) then kr (6, ())
  else 
  (espalierref_NodeAt n ((Ev.Graph.mk o19.1.nodes o19.1.edges o19.1.next), x20.id, ())).bind fun (y21, _) => 
  optC y21 (
  (espalierref_IsName (x20.type, ())).bind fun (y23, _) => 
  (bif !y23 then kr (6, ())
  else 
  (espalierref_NodeAt n ((Ev.Graph.mk o19.1.nodes o19.1.edges o19.1.next), x20.src, ())).bind fun (y24, _) => 
  optC y24 (kr (5, ())) (fun z25 => 
  (espalierref_NodeAt n ((Ev.Graph.mk o19.1.nodes o19.1.edges o19.1.next), x20.dst, ())).bind fun (y26, _) => 
  optC y26 (kr (5, ())) (fun z27 => 
  (espalierref_CheckProps n (x20.props, ())).bind fun (y28, _) => 
  (bif (y28 : Int) != 0 then kr (y28, ())
  else rec ((if x20.id > v14 then x20.id else v14), x20.id, v16, v17, IntKind.wrap .i64 (v18 + 1), ((Ev.Graph.mk o19.1.nodes o19.1.edges o19.1.next), ()), ())))))) (fun z22 => kr (6, ())))
  else kx (v14, ((Ev.Graph.mk o19.1.nodes o19.1.edges o19.1.next), ()), ()))

noncomputable def F_espalierref_CheckGraph_s0 {ρ : Type} (n : Nat) (kr : Int × Unit → Option ρ) : Int → Ev.Node → (Int × Int × (Ev.Graph × Unit) × Unit) → ((Int × Int × (Ev.Graph × Unit) × Unit) → Option ρ) → Option ρ :=
  fun v6 x8 (v2, v3, o7, _) rec =>  
  (bif decide ((x8.id : Int) ≤ v3) then kr (6, ())
  else 
  (espalierref_CheckLabels n (x8.labels, ())).bind fun (y9, _) => 
  (bif (y9 : Int) != 0 then kr (y9, ())
  else 
  (espalierref_CheckProps n (x8.props, ())).bind fun (y10, _) => 
  (bif (y10 : Int) != 0 then kr (y10, ())
  else rec (x8.id, x8.id, ((Ev.Graph.mk o7.1.nodes o7.1.edges o7.1.next), ()), ()))))

theorem R_espalierref_CheckGraph_s0 {ρ : Type} (n : Nat) (kx : Int × (Ev.Graph × Unit) × Unit → Option ρ) (kr : Int × Unit → Option ρ) (l : List Ev.Node) (fuel : Nat) (v2 : Int) (v3 : Int) (o7 : Ev.Graph × Unit) (hl : l.length ≤ 9223372036854775807) (hf : l.length < fuel) :
    iterN (fun rc => espalierref_CheckGraph_s0 n rc kx kr) fuel (v2, v3, l, (l.length : Int), 0, o7, ()) = foldK (F_espalierref_CheckGraph_s0 n kr) (fun (v2, v3, o7, _) => kx (v2, ((Ev.Graph.mk o7.1.nodes o7.1.edges o7.1.next), ()), ())) 0 l (v2, v3, o7, ()) :=
  range_listM l (fun i (v2, v3, o7, _) => (v2, v3, l, (l.length : Int), i, o7, ())) _ _ _ (fun rec i s => rfl) hl fuel (v2, v3, o7, ()) hf

noncomputable def F_espalierref_CheckGraph_s2 {ρ : Type} (n : Nat) (kr : Int × Unit → Option ρ) : Int → Ev.Edg → (Int × Int × (Ev.Graph × Unit) × Unit) → ((Int × Int × (Ev.Graph × Unit) × Unit) → Option ρ) → Option ρ :=
  fun v18 x20 (v14, v15, o19, _) rec =>  
  (bif decide ((x20.id : Int) ≤ v15) then kr (6, ())
  else 
  (espalierref_NodeAt n ((Ev.Graph.mk o19.1.nodes o19.1.edges o19.1.next), x20.id, ())).bind fun (y21, _) => 
  optC y21 (
  (espalierref_IsName (x20.type, ())).bind fun (y23, _) => 
  (bif !y23 then kr (6, ())
  else 
  (espalierref_NodeAt n ((Ev.Graph.mk o19.1.nodes o19.1.edges o19.1.next), x20.src, ())).bind fun (y24, _) => 
  optC y24 (kr (5, ())) (fun z25 => 
  (espalierref_NodeAt n ((Ev.Graph.mk o19.1.nodes o19.1.edges o19.1.next), x20.dst, ())).bind fun (y26, _) => 
  optC y26 (kr (5, ())) (fun z27 => 
  (espalierref_CheckProps n (x20.props, ())).bind fun (y28, _) => 
  (bif (y28 : Int) != 0 then kr (y28, ())
  else rec ((if x20.id > v14 then x20.id else v14), x20.id, ((Ev.Graph.mk o19.1.nodes o19.1.edges o19.1.next), ()), ())))))) (fun z22 => kr (6, ())))

theorem R_espalierref_CheckGraph_s2 {ρ : Type} (n : Nat) (kx : Int × (Ev.Graph × Unit) × Unit → Option ρ) (kr : Int × Unit → Option ρ) (l : List Ev.Edg) (fuel : Nat) (v14 : Int) (v15 : Int) (o19 : Ev.Graph × Unit) (hl : l.length ≤ 9223372036854775807) (hf : l.length < fuel) :
    iterN (fun rc => espalierref_CheckGraph_s2 n rc kx kr) fuel (v14, v15, l, (l.length : Int), 0, o19, ()) = foldK (F_espalierref_CheckGraph_s2 n kr) (fun (v14, v15, o19, _) => kx (v14, ((Ev.Graph.mk o19.1.nodes o19.1.edges o19.1.next), ()), ())) 0 l (v14, v15, o19, ()) :=
  range_listM l (fun i (v14, v15, o19, _) => (v14, v15, l, (l.length : Int), i, o19, ())) _ _ _ (fun rec i s => rfl) hl fuel (v14, v15, o19, ()) hf

/-- espalierref.CheckGraph -/
noncomputable def espalierref_CheckGraph (n : Nat) : Ev.Graph × Unit → Option (Int × Unit) :=
  fun (a1, _) => 
  (bif (decide (((a1.nodes.length : Int) : Int) > 40)) || (decide (((a1.edges.length : Int) : Int) > 60)) then some (2, ())
  else 
  iterN (fun rc33 => espalierref_CheckGraph_s0 n rc33 (fun (v11, o12, _) => 
  iterN (fun rc32 => espalierref_CheckGraph_s2 n rc32 (fun (v29, o30, _) => 
  (bif (decide ((o30.1.next : Int) ≤ v29)) || (decide ((o30.1.next : Int) > 1099511627776)) then some (9, ())
  else some (0, ()))) (fun (v31, _) => some (v31, ()))) (n) (v11, 0, o12.1.edges, (o12.1.edges.length : Int), 0, ((Ev.Graph.mk o12.1.nodes o12.1.edges o12.1.next), ()), ())) (fun (v13, _) => some (v13, ()))) (n) (0, 0, a1.nodes, (a1.nodes.length : Int), 0, ((Ev.Graph.mk a1.nodes a1.edges a1.next), ()), ()))

/-- espalierref.Seen$1 -/
noncomputable def espalierref_Seen_1 (n : Nat) : ByteArray × ((List ByteArray) × Unit) × Unit → Option (Bool × ((List ByteArray) × Unit) × Unit) :=
  fun (a1, o2, _) => 
  (slices_Contains_string_string n (o2.1, a1, ())).bind fun (y3, _) => some (y3, (o2.1, ()), ())

/-- a round of a loop of slices.IndexFunc   string,string  -/
noncomputable def slices_IndexFunc_string_string_espalierref_Seen_1_c_s0 {ρ : Type} (n : Nat) (rec : (List ByteArray) × Int × Int × ((List ByteArray) × Unit) × Unit → Option ρ) (kx : ((List ByteArray) × Unit) × Unit → Option ρ) (kr : Int × ((List ByteArray) × Unit) × Unit → Option ρ) : (List ByteArray) × Int × Int × ((List ByteArray) × Unit) × Unit → Option ρ :=
  fun (v3, v4, v5, o6, _) => 
  (bif decide ((v5 : Int) < v4) then 
  (ix v3 v5).bind fun x7 => 
  (espalierref_Seen_1 n (x7, (o6.1, ()), ())).bind fun (y8, o9, _) => 
  (bif y8 then kr (v5, (o9.1, ()), ())
  else rec (v3, v4, IntKind.wrap .i64 (v5 + 1), (o9.1, ()), ()))
  else kx ((o6.1, ()), ()))

noncomputable def F_slices_IndexFunc_string_string_espalierref_Seen_1_c_s0 {ρ : Type} (n : Nat) (kr : Int × ((List ByteArray) × Unit) × Unit → Option ρ) : Int → ByteArray → (((List ByteArray) × Unit) × Unit) → ((((List ByteArray) × Unit) × Unit) → Option ρ) → Option ρ :=
  fun v5 x7 (o6, _) rec =>  
  (espalierref_Seen_1 n (x7, (o6.1, ()), ())).bind fun (y8, o9, _) => 
  (bif y8 then kr (v5, (o9.1, ()), ())
  else rec ((o9.1, ()), ()))

theorem R_slices_IndexFunc_string_string_espalierref_Seen_1_c_s0 {ρ : Type} (n : Nat) (kx : ((List ByteArray) × Unit) × Unit → Option ρ) (kr : Int × ((List ByteArray) × Unit) × Unit → Option ρ) (l : List ByteArray) (fuel : Nat) (o6 : (List ByteArray) × Unit) (hl : l.length ≤ 9223372036854775807) (hf : l.length < fuel) :
    iterN (fun rc => slices_IndexFunc_string_string_espalierref_Seen_1_c_s0 n rc kx kr) fuel (l, (l.length : Int), 0, o6, ()) = foldK (F_slices_IndexFunc_string_string_espalierref_Seen_1_c_s0 n kr) (fun (o6, _) => kx ((o6.1, ()), ())) 0 l (o6, ()) :=
  range_listM l (fun i (o6, _) => (l, (l.length : Int), i, o6, ())) _ _ _ (fun rec i s => rfl) hl fuel (o6, ()) hf

/-- slices.IndexFunc   string,string  -/
noncomputable def slices_IndexFunc_string_string_espalierref_Seen_1_c (n : Nat) : (List ByteArray) × ((List ByteArray) × Unit) × Unit → Option (Int × ((List ByteArray) × Unit) × Unit) :=
  fun (a1, o2, _) => 
  iterN (fun rc13 => slices_IndexFunc_string_string_espalierref_Seen_1_c_s0 n rc13 (fun (o10, _) => some ((-1), (o10.1, ()), ())) (fun (v11, o12, _) => some (v11, (o12.1, ()), ()))) (n) (a1, (a1.length : Int), 0, (o2.1, ()), ())

/-- slices.ContainsFunc   string,string  -/
noncomputable def slices_ContainsFunc_string_string_espalierref_Seen_1_c (n : Nat) : (List ByteArray) × ((List ByteArray) × Unit) × Unit → Option (Bool × ((List ByteArray) × Unit) × Unit) :=
  fun (a1, o2, _) => 
  (slices_IndexFunc_string_string_espalierref_Seen_1_c n (a1, (o2.1, ()), ())).bind fun (y3, o4, _) => some (decide ((y3 : Int) ≥ 0), (o4.1, ()), ())

/-- a round of a loop of espalierref.Seen -/
noncomputable def espalierref_Seen_s0 {ρ : Type} (n : Nat) (rec : (List Ev.Node) × Int × Int × ((List ByteArray) × Unit) × (Ev.Graph × Unit) × (Ev.Graph × Unit) × (Int × Unit) × (List Ev.Node) × Unit → Option ρ) (kx : (Ev.Graph × Unit) × (Ev.Graph × Unit) × (Int × Unit) × (List Ev.Node) × Unit → Option ρ) (kr : Unit → Option ρ) : (List Ev.Node) × Int × Int × ((List ByteArray) × Unit) × (Ev.Graph × Unit) × (Ev.Graph × Unit) × (Int × Unit) × (List Ev.Node) × Unit → Option ρ :=
  fun (v3, v4, v5, o6, o7, o8, o9, o10, _) => 
  (bif decide ((v5 : Int) < v4) then 
  (ix v3 v5).bind fun x11 => 
  (slices_Contains_string_string n (o6.1, (⟨#[]⟩ : ByteArray), ())).bind fun (y12, _) => 
  (bif y12 then 
  ck (room (o10 ++ ([(Ev.Node.mk x11.id x11.labels x11.props)] : List Ev.Node)).length 56) (rec (v3, v4, IntKind.wrap .i64 (v5 + 1), (o6.1, ()), ((Ev.Graph.mk o7.1.nodes o7.1.edges o7.1.next), ()), ((Ev.Graph.mk o8.1.nodes o8.1.edges o8.1.next), ()), (o9.1, ()), o10 ++ ([(Ev.Node.mk x11.id x11.labels x11.props)] : List Ev.Node), ()))
  else 
  (slices_ContainsFunc_string_string_espalierref_Seen_1_c n (x11.labels, (o6.1, ()), ())).bind fun (y13, o14, _) => 
  (bif y13 then 
  ck (room (o10 ++ ([(Ev.Node.mk x11.id x11.labels x11.props)] : List Ev.Node)).length 56) (rec (v3, v4, IntKind.wrap .i64 (v5 + 1), (o14.1, ()), ((Ev.Graph.mk o7.1.nodes o7.1.edges o7.1.next), ()), ((Ev.Graph.mk o8.1.nodes o8.1.edges o8.1.next), ()), (o9.1, ()), o10 ++ ([(Ev.Node.mk x11.id x11.labels x11.props)] : List Ev.Node), ()))
  else rec (v3, v4, IntKind.wrap .i64 (v5 + 1), (o14.1, ()), ((Ev.Graph.mk o7.1.nodes o7.1.edges o7.1.next), ()), ((Ev.Graph.mk o8.1.nodes o8.1.edges o8.1.next), ()), (o9.1, ()), o10, ())))
  else kx (((Ev.Graph.mk o7.1.nodes o7.1.edges o7.1.next), ()), ((Ev.Graph.mk o8.1.nodes o8.1.edges o8.1.next), ()), (o9.1, ()), o10, ()))

/-- a round of a loop of espalierref.Seen -/
noncomputable def espalierref_Seen_s2 {ρ : Type} (n : Nat) (rec : (List Ev.Edg) × Int × Int × (Ev.Graph × Unit) × (Int × Unit) × (List Ev.Node) × (List Ev.Edg) × Unit → Option ρ) (kx : (Ev.Graph × Unit) × (Int × Unit) × (List Ev.Node) × (List Ev.Edg) × Unit → Option ρ) (kr : Unit → Option ρ) : (List Ev.Edg) × Int × Int × (Ev.Graph × Unit) × (Int × Unit) × (List Ev.Node) × (List Ev.Edg) × Unit → Option ρ :=
  fun (v19, v20, v21, o22, o23, o24, o25, _) => 
  (bif decide ((v21 : Int) < v20) then 
  (ix v19 v21).bind fun x26 => 
  (espalierref_NodeAt n ((Ev.Graph.mk o24 o25 o23.1), x26.src, ())).bind fun (y27, _) => 
  optC y27 (rec (v19, v20, IntKind.wrap .i64 (v21 + 1), ((Ev.Graph.mk o22.1.nodes o22.1.edges o22.1.next), ()), (o23.1, ()), o24, o25, ())) (fun z28 => 
  (espalierref_NodeAt n ((Ev.Graph.mk o24 o25 o23.1), x26.dst, ())).bind fun (y29, _) => 
  optC y29 (rec (v19, v20, IntKind.wrap .i64 (v21 + 1), ((Ev.Graph.mk o22.1.nodes o22.1.edges o22.1.next), ()), (o23.1, ()), o24, o25, ())) (fun z30 => 
  ck (room (o25 ++ ([(Ev.Edg.mk x26.id x26.src x26.dst x26.type x26.props)] : List Ev.Edg)).length 64) (rec (v19, v20, IntKind.wrap .i64 (v21 + 1), ((Ev.Graph.mk o22.1.nodes o22.1.edges o22.1.next), ()), (o23.1, ()), o24, o25 ++ ([(Ev.Edg.mk x26.id x26.src x26.dst x26.type x26.props)] : List Ev.Edg), ()))))
  else kx (((Ev.Graph.mk o22.1.nodes o22.1.edges o22.1.next), ()), (o23.1, ()), o24, o25, ()))

noncomputable def F_espalierref_Seen_s0 {ρ : Type} (n : Nat) (kr : Unit → Option ρ) : Int → Ev.Node → (((List ByteArray) × Unit) × (Ev.Graph × Unit) × (Ev.Graph × Unit) × (Int × Unit) × (List Ev.Node) × Unit) → ((((List ByteArray) × Unit) × (Ev.Graph × Unit) × (Ev.Graph × Unit) × (Int × Unit) × (List Ev.Node) × Unit) → Option ρ) → Option ρ :=
  fun v5 x11 (o6, o7, o8, o9, o10, _) rec =>  
  (slices_Contains_string_string n (o6.1, (⟨#[]⟩ : ByteArray), ())).bind fun (y12, _) => 
  (bif y12 then 
  ck (room (o10 ++ ([(Ev.Node.mk x11.id x11.labels x11.props)] : List Ev.Node)).length 56) (rec ((o6.1, ()), ((Ev.Graph.mk o7.1.nodes o7.1.edges o7.1.next), ()), ((Ev.Graph.mk o8.1.nodes o8.1.edges o8.1.next), ()), (o9.1, ()), o10 ++ ([(Ev.Node.mk x11.id x11.labels x11.props)] : List Ev.Node), ()))
  else 
  (slices_ContainsFunc_string_string_espalierref_Seen_1_c n (x11.labels, (o6.1, ()), ())).bind fun (y13, o14, _) => 
  (bif y13 then 
  ck (room (o10 ++ ([(Ev.Node.mk x11.id x11.labels x11.props)] : List Ev.Node)).length 56) (rec ((o14.1, ()), ((Ev.Graph.mk o7.1.nodes o7.1.edges o7.1.next), ()), ((Ev.Graph.mk o8.1.nodes o8.1.edges o8.1.next), ()), (o9.1, ()), o10 ++ ([(Ev.Node.mk x11.id x11.labels x11.props)] : List Ev.Node), ()))
  else rec ((o14.1, ()), ((Ev.Graph.mk o7.1.nodes o7.1.edges o7.1.next), ()), ((Ev.Graph.mk o8.1.nodes o8.1.edges o8.1.next), ()), (o9.1, ()), o10, ())))

theorem R_espalierref_Seen_s0 {ρ : Type} (n : Nat) (kx : (Ev.Graph × Unit) × (Ev.Graph × Unit) × (Int × Unit) × (List Ev.Node) × Unit → Option ρ) (kr : Unit → Option ρ) (l : List Ev.Node) (fuel : Nat) (o6 : (List ByteArray) × Unit) (o7 : Ev.Graph × Unit) (o8 : Ev.Graph × Unit) (o9 : Int × Unit) (o10 : List Ev.Node) (hl : l.length ≤ 9223372036854775807) (hf : l.length < fuel) :
    iterN (fun rc => espalierref_Seen_s0 n rc kx kr) fuel (l, (l.length : Int), 0, o6, o7, o8, o9, o10, ()) = foldK (F_espalierref_Seen_s0 n kr) (fun (o6, o7, o8, o9, o10, _) => kx (((Ev.Graph.mk o7.1.nodes o7.1.edges o7.1.next), ()), ((Ev.Graph.mk o8.1.nodes o8.1.edges o8.1.next), ()), (o9.1, ()), o10, ())) 0 l (o6, o7, o8, o9, o10, ()) :=
  range_listM l (fun i (o6, o7, o8, o9, o10, _) => (l, (l.length : Int), i, o6, o7, o8, o9, o10, ())) _ _ _ (fun rec i s => rfl) hl fuel (o6, o7, o8, o9, o10, ()) hf

noncomputable def F_espalierref_Seen_s2 {ρ : Type} (n : Nat) (kr : Unit → Option ρ) : Int → Ev.Edg → ((Ev.Graph × Unit) × (Int × Unit) × (List Ev.Node) × (List Ev.Edg) × Unit) → (((Ev.Graph × Unit) × (Int × Unit) × (List Ev.Node) × (List Ev.Edg) × Unit) → Option ρ) → Option ρ :=
  fun v21 x26 (o22, o23, o24, o25, _) rec =>  
  (espalierref_NodeAt n ((Ev.Graph.mk o24 o25 o23.1), x26.src, ())).bind fun (y27, _) => 
  optC y27 (rec (((Ev.Graph.mk o22.1.nodes o22.1.edges o22.1.next), ()), (o23.1, ()), o24, o25, ())) (fun z28 => 
  (espalierref_NodeAt n ((Ev.Graph.mk o24 o25 o23.1), x26.dst, ())).bind fun (y29, _) => 
  optC y29 (rec (((Ev.Graph.mk o22.1.nodes o22.1.edges o22.1.next), ()), (o23.1, ()), o24, o25, ())) (fun z30 => 
  ck (room (o25 ++ ([(Ev.Edg.mk x26.id x26.src x26.dst x26.type x26.props)] : List Ev.Edg)).length 64) (rec (((Ev.Graph.mk o22.1.nodes o22.1.edges o22.1.next), ()), (o23.1, ()), o24, o25 ++ ([(Ev.Edg.mk x26.id x26.src x26.dst x26.type x26.props)] : List Ev.Edg), ()))))

theorem R_espalierref_Seen_s2 {ρ : Type} (n : Nat) (kx : (Ev.Graph × Unit) × (Int × Unit) × (List Ev.Node) × (List Ev.Edg) × Unit → Option ρ) (kr : Unit → Option ρ) (l : List Ev.Edg) (fuel : Nat) (o22 : Ev.Graph × Unit) (o23 : Int × Unit) (o24 : List Ev.Node) (o25 : List Ev.Edg) (hl : l.length ≤ 9223372036854775807) (hf : l.length < fuel) :
    iterN (fun rc => espalierref_Seen_s2 n rc kx kr) fuel (l, (l.length : Int), 0, o22, o23, o24, o25, ()) = foldK (F_espalierref_Seen_s2 n kr) (fun (o22, o23, o24, o25, _) => kx (((Ev.Graph.mk o22.1.nodes o22.1.edges o22.1.next), ()), (o23.1, ()), o24, o25, ())) 0 l (o22, o23, o24, o25, ()) :=
  range_listM l (fun i (o22, o23, o24, o25, _) => (l, (l.length : Int), i, o22, o23, o24, o25, ())) _ _ _ (fun rec i s => rfl) hl fuel (o22, o23, o24, o25, ()) hf

/-- espalierref.Seen -/
noncomputable def espalierref_Seen (n : Nat) : (List ByteArray) × Ev.Graph × Unit → Option (Ev.Graph × Unit) :=
  fun (a1, a2, _) => 
  iterN (fun rc36 => espalierref_Seen_s0 n rc36 (fun (o15, o16, o17, o18, _) => 
  iterN (fun rc35 => espalierref_Seen_s2 n rc35 (fun (o31, o32, o33, o34, _) => some ((Ev.Graph.mk o33 o34 o32.1), ())) (fun (_) => none)) (n) (o15.1.edges, (o15.1.edges.length : Int), 0, ((Ev.Graph.mk o16.1.nodes o16.1.edges o16.1.next), ()), (o17.1, ()), o18, ([] : List Ev.Edg), ())) (fun (_) => none)) (n) (a2.nodes, (a2.nodes.length : Int), 0, (a1, ()), ((Ev.Graph.mk a2.nodes a2.edges a2.next), ()), ((Ev.Graph.mk ([] : List Ev.Node) ([] : List Ev.Edg) 0), ()), (a2.next, ()), ([] : List Ev.Node), ())

/-- a round of a loop of espalierlaw.seenBy -/
noncomputable def espalierlaw_seenBy_s0 {ρ : Type} (n : Nat) (rec : ByteArray × (List Ev.Grant) × Int × Int × (Ev.Graph × Unit) × (Ev.Graph × Unit) × Unit → Option ρ) (kx : (Ev.Graph × Unit) × Unit → Option ρ) (kr : (List ByteArray) × Int × (Ev.Graph × Unit) × Unit → Option ρ) : ByteArray × (List Ev.Grant) × Int × Int × (Ev.Graph × Unit) × (Ev.Graph × Unit) × Unit → Option ρ :=
  fun (v6, v7, v8, v9, o10, o11, _) => 
  (bif decide ((v9 : Int) < v8) then 
  (ix v7 v9).bind fun x12 => 
  (bif seq x12.who v6 then 
  (espalierref_Seen n (x12.labels, (Ev.Graph.mk o10.1.nodes o10.1.edges o10.1.next), ())).bind fun (y14, _) => kr (x12.labels, 0, ((Ev.Graph.mk y14.nodes y14.edges y14.next), ()), ())
  else rec (v6, v7, v8, IntKind.wrap .i64 (v9 + 1), ((Ev.Graph.mk o10.1.nodes o10.1.edges o10.1.next), ()), ((Ev.Graph.mk o11.1.nodes o11.1.edges o11.1.next), ()), ()))
  else kx (((Ev.Graph.mk o11.1.nodes o11.1.edges o11.1.next), ()), ()))

noncomputable def F_espalierlaw_seenBy_s0 {ρ : Type} (n : Nat) (kr : (List ByteArray) × Int × (Ev.Graph × Unit) × Unit → Option ρ) : Int → Ev.Grant → (ByteArray × (Ev.Graph × Unit) × (Ev.Graph × Unit) × Unit) → ((ByteArray × (Ev.Graph × Unit) × (Ev.Graph × Unit) × Unit) → Option ρ) → Option ρ :=
  fun v9 x12 (v6, o10, o11, _) rec =>  
  (bif seq x12.who v6 then 
  (espalierref_Seen n (x12.labels, (Ev.Graph.mk o10.1.nodes o10.1.edges o10.1.next), ())).bind fun (y14, _) => kr (x12.labels, 0, ((Ev.Graph.mk y14.nodes y14.edges y14.next), ()), ())
  else rec (v6, ((Ev.Graph.mk o10.1.nodes o10.1.edges o10.1.next), ()), ((Ev.Graph.mk o11.1.nodes o11.1.edges o11.1.next), ()), ()))

theorem R_espalierlaw_seenBy_s0 {ρ : Type} (n : Nat) (kx : (Ev.Graph × Unit) × Unit → Option ρ) (kr : (List ByteArray) × Int × (Ev.Graph × Unit) × Unit → Option ρ) (l : List Ev.Grant) (fuel : Nat) (v6 : ByteArray) (o10 : Ev.Graph × Unit) (o11 : Ev.Graph × Unit) (hl : l.length ≤ 9223372036854775807) (hf : l.length < fuel) :
    iterN (fun rc => espalierlaw_seenBy_s0 n rc kx kr) fuel (v6, l, (l.length : Int), 0, o10, o11, ()) = foldK (F_espalierlaw_seenBy_s0 n kr) (fun (v6, o10, o11, _) => kx (((Ev.Graph.mk o11.1.nodes o11.1.edges o11.1.next), ()), ())) 0 l (v6, o10, o11, ()) :=
  range_listM l (fun i (v6, o10, o11, _) => (v6, l, (l.length : Int), i, o10, o11, ())) _ _ _ (fun rec i s => rfl) hl fuel (v6, o10, o11, ()) hf

/-- espalierlaw.seenBy -/
noncomputable def espalierlaw_seenBy (n : Nat) : (List Ev.Grant) × ByteArray × Ev.Graph × Unit → Option (Ev.Graph × (List ByteArray) × Int × Unit) :=
  fun (a1, a2, a3, _) => 
  (espalierlaw_checkGrants n (a1, ())).bind fun (y4, _) => 
  (bif (y4 : Int) != 0 then some ((Ev.Graph.mk ([] : List Ev.Node) ([] : List Ev.Edg) 0), ([] : List ByteArray), y4, ())
  else 
  (espalierref_CheckGraph n ((Ev.Graph.mk a3.nodes a3.edges a3.next), ())).bind fun (y5, _) => 
  (bif (y5 : Int) != 0 then some ((Ev.Graph.mk ([] : List Ev.Node) ([] : List Ev.Edg) 0), ([] : List ByteArray), y5, ())
  else 
  iterN (fun rc19 => espalierlaw_seenBy_s0 n rc19 (fun (o15, _) => some ((Ev.Graph.mk ([] : List Ev.Node) ([] : List Ev.Edg) 0), ([] : List ByteArray), 12, ())) (fun (v16, v17, o18, _) => some ((Ev.Graph.mk o18.1.nodes o18.1.edges o18.1.next), v16, v17, ()))) (n) (a2, a1, (a1.length : Int), 0, ((Ev.Graph.mk a3.nodes a3.edges a3.next), ()), ((Ev.Graph.mk ([] : List Ev.Node) ([] : List Ev.Edg) 0), ()), ())))

/-- espalierlaw.line3 -/
noncomputable def espalierlaw_line3 : Unit → Option (Ev.Graph × Unit) :=
  fun (_) => some ((Ev.Graph.mk ([(Ev.Node.mk 1 ([] : List ByteArray) ([] : List Ev.Prp)), (Ev.Node.mk 2 ([] : List ByteArray) ([] : List Ev.Prp)), (Ev.Node.mk 3 ([(⟨#[65]⟩ : ByteArray)] : List ByteArray) ([] : List Ev.Prp))] : List Ev.Node) ([(Ev.Edg.mk 4 1 2 (⟨#[75]⟩ : ByteArray) ([] : List Ev.Prp)), (Ev.Edg.mk 5 2 3 (⟨#[75]⟩ : ByteArray) ([] : List Ev.Prp))] : List Ev.Edg) 6), ())

/-- espalierlaw.granted -/
noncomputable def espalierlaw_granted (n : Nat) : Unit → Option (Bool × Unit) :=
  fun (_) => 
  (espalierlaw_line3 (())).bind fun (y1, _) => 
  (grant_See n (([(Ev.Grant.mk (⟨#[101, 118, 101]⟩ : ByteArray) ([(⟨#[65]⟩ : ByteArray)] : List ByteArray))] : List Ev.Grant), (⟨#[101, 118, 101]⟩ : ByteArray), (Ev.Graph.mk y1.nodes y1.edges y1.next), ())).bind fun (y2, y3, _) => 
  (bif ((y3 : Int) == 0) && (((y2.nodes.length : Int) : Int) == 1) then 
  (ix y2.nodes 0).bind fun x4 => some (((x4.id : Int) == 3) && (((y2.edges.length : Int) : Int) == 0), ())
  else some (false, ()))

/-- a round of a loop of slices.Equal   string,string  -/
noncomputable def slices_Equal_string_string_s0 {ρ : Type} (n : Nat) (rec : (List ByteArray) × (List ByteArray) × Int × Int × Unit → Option ρ) (kx : Unit → Option ρ) (kr : Bool × Unit → Option ρ) : (List ByteArray) × (List ByteArray) × Int × Int × Unit → Option ρ :=
  fun (v3, v4, v5, v6, _) => 
  (bif decide ((v6 : Int) < v5) then 
  (ix v3 v6).bind fun x9 => 
  (ix v4 v6).bind fun x10 => 
  (bif !(seq x9 x10) then kr (false, ())
  else rec (v3, v4, v5, IntKind.wrap .i64 (v6 + 1), ()))
  else kx (()))

noncomputable def F_slices_Equal_string_string_s0 {ρ : Type} (n : Nat) (kr : Bool × Unit → Option ρ) : Int → ByteArray → ((List ByteArray) × Unit) → (((List ByteArray) × Unit) → Option ρ) → Option ρ :=
  fun v6 x9 (v4, _) rec =>  
  (ix v4 v6).bind fun x10 => 
  (bif !(seq x9 x10) then kr (false, ())
  else rec (v4, ()))

theorem R_slices_Equal_string_string_s0 {ρ : Type} (n : Nat) (kx : Unit → Option ρ) (kr : Bool × Unit → Option ρ) (l : List ByteArray) (fuel : Nat) (v4 : List ByteArray) (hl : l.length ≤ 9223372036854775807) (hf : l.length < fuel) :
    iterN (fun rc => slices_Equal_string_string_s0 n rc kx kr) fuel (l, v4, (l.length : Int), 0, ()) = foldK (F_slices_Equal_string_string_s0 n kr) (fun (v4, _) => kx (())) 0 l (v4, ()) :=
  range_listM l (fun i (v4, _) => (l, v4, (l.length : Int), i, ())) _ _ _ (fun rec i s => rfl) hl fuel (v4, ()) hf

/-- slices.Equal   string,string  -/
noncomputable def slices_Equal_string_string (n : Nat) : (List ByteArray) × (List ByteArray) × Unit → Option (Bool × Unit) :=
  fun (a1, a2, _) => 
  (bif ((a1.length : Int) : Int) != (a2.length : Int) then some (false, ())
  else 
  iterN (fun rc12 => slices_Equal_string_string_s0 n rc12 (fun (_) => some (true, ())) (fun (v11, _) => some (v11, ()))) (n) (a1, a2, (a1.length : Int), 0, ()))

/-- bytes.Compare -/
noncomputable def bytes_Compare : (List Int) × (List Int) × Unit → Option (Int × Unit) :=
  fun (a1, a2, _) => 
  (cmpN (a1, a2, ())).bind fun (y3, _) => some (y3, ())

/-- a round of a loop of espalierref.OrderOf -/
noncomputable def espalierref_OrderOf_s1 {ρ : Type} (self_espalierref_OrderOf : Ev.Val × Ev.Val × Unit → Option (Int × Unit)) (n : Nat) (rec : Int × (Ev.Val × Unit) × (Ev.Val × Unit) × Unit → Option ρ) (kx : (Ev.Val × Unit) × (Ev.Val × Unit) × Unit → Option ρ) (kr : Int × Unit → Option ρ) : Int × (Ev.Val × Unit) × (Ev.Val × Unit) × Unit → Option ρ :=
  fun (v4, o5, o6, _) => 
  (bif (decide ((v4 : Int) < (o5.1.l.length : Int))) && (decide ((v4 : Int) < (o6.1.l.length : Int))) then 
  (ix o5.1.l v4).bind fun x9 => 
  (ix o6.1.l v4).bind fun x10 => 
  (self_espalierref_OrderOf ((Ev.Val.mk x9.kind x9.n x9.s x9.l), (Ev.Val.mk x10.kind x10.n x10.s x10.l), ())).bind fun (y11, _) => 
  (bif (y11 : Int) != 0 then kr (y11, ())
  else rec (IntKind.wrap .i64 (v4 + 1), ((Ev.Val.mk o5.1.kind o5.1.n o5.1.s o5.1.l), ()), ((Ev.Val.mk o6.1.kind o6.1.n o6.1.s o6.1.l), ()), ()))
  else kx (((Ev.Val.mk o5.1.kind o5.1.n o5.1.s o5.1.l), ()), ((Ev.Val.mk o6.1.kind o6.1.n o6.1.s o6.1.l), ()), ()))

/-- espalierref.OrderOf -/
noncomputable def espalierref_OrderOf_b (self_espalierref_OrderOf : Ev.Val × Ev.Val × Unit → Option (Int × Unit)) (n : Nat) : Ev.Val × Ev.Val × Unit → Option (Int × Unit) :=
  fun (a1, a2, _) => 
  (bif decide ((a1.kind : Int) < a2.kind) then some ((-1), ())
  else 
  (bif decide ((a1.kind : Int) > a2.kind) then some (1, ())
  else 
  (bif decide ((a1.n : Int) < a2.n) then some ((-1), ())
  else 
  (bif decide ((a1.n : Int) > a2.n) then some (1, ())
  else 
  (bif !(seq a1.s a2.s) then 
  (bytes_Compare (bytesI a1.s, bytesI a2.s, ())).bind fun (y3, _) => some (y3, ())
  else 
  iterN (fun rc15 => espalierref_OrderOf_s1 self_espalierref_OrderOf n rc15 (fun (o12, o13, _) => 
  (bif decide (((o12.1.l.length : Int) : Int) < (o13.1.l.length : Int)) then some ((-1), ())
  else 
  (bif decide (((o12.1.l.length : Int) : Int) > (o13.1.l.length : Int)) then some (1, ())
  else some (0, ())))) (fun (v14, _) => some (v14, ()))) (n) (0, ((Ev.Val.mk a1.kind a1.n a1.s a1.l), ()), ((Ev.Val.mk a2.kind a2.n a2.s a2.l), ()), ()))))))

noncomputable def espalierref_OrderOf : Nat → Ev.Val × Ev.Val × Unit → Option (Int × Unit)
  | 0, _ => none
  | n + 1, x => espalierref_OrderOf_b (espalierref_OrderOf n) n x

/-- espalierref.SameValue -/
noncomputable def espalierref_SameValue (n : Nat) : Ev.Val × Ev.Val × Unit → Option (Bool × Unit) :=
  fun (a1, a2, _) => 
  (espalierref_OrderOf n ((Ev.Val.mk a1.kind a1.n a1.s a1.l), (Ev.Val.mk a2.kind a2.n a2.s a2.l), ())).bind fun (y3, _) => some ((y3 : Int) == 0, ())

/-- espalierref.SameProps$1 -/
noncomputable def espalierref_SameProps_1 (n : Nat) : Ev.Prp × Ev.Prp × Unit → Option (Bool × Unit) :=
  fun (a1, a2, _) => 
  (bif seq a1.name a2.name then 
  (espalierref_SameValue n ((Ev.Val.mk a1.val.kind a1.val.n a1.val.s a1.val.l), (Ev.Val.mk a2.val.kind a2.val.n a2.val.s a2.val.l), ())).bind fun (y3, _) => some (y3, ())
  else some (false, ()))

/-- a round of a loop of slices.EqualFunc   api.Prop,  api.Prop,api.Prop,api.Prop  -/
noncomputable def slices_EqualFunc_api_Prop_api_Prop_api_Prop_api_Prop_espalierref_SameProps_1_s0 {ρ : Type} (n : Nat) (rec : (List Ev.Prp) × (List Ev.Prp) × Int × Int × Unit → Option ρ) (kx : Unit → Option ρ) (kr : Bool × Unit → Option ρ) : (List Ev.Prp) × (List Ev.Prp) × Int × Int × Unit → Option ρ :=
  fun (v3, v4, v5, v6, _) => 
  (bif decide ((v6 : Int) < v5) then 
  (ix v4 v6).bind fun x7 => 
  (ix v3 v6).bind fun x8 => 
  (espalierref_SameProps_1 n ((Ev.Prp.mk x7.name (Ev.Val.mk x7.val.kind x7.val.n x7.val.s x7.val.l)), (Ev.Prp.mk x8.name (Ev.Val.mk x8.val.kind x8.val.n x8.val.s x8.val.l)), ())).bind fun (y9, _) => 
  (bif !y9 then kr (false, ())
  else rec (v3, v4, v5, IntKind.wrap .i64 (v6 + 1), ()))
  else kx (()))

noncomputable def F_slices_EqualFunc_api_Prop_api_Prop_api_Prop_api_Prop_espalierref_SameProps_1_s0 {ρ : Type} (n : Nat) (kr : Bool × Unit → Option ρ) : Int → Ev.Prp → ((List Ev.Prp) × Unit) → (((List Ev.Prp) × Unit) → Option ρ) → Option ρ :=
  fun v6 x7 (v3, _) rec =>  
  (ix v3 v6).bind fun x8 => 
  (espalierref_SameProps_1 n ((Ev.Prp.mk x7.name (Ev.Val.mk x7.val.kind x7.val.n x7.val.s x7.val.l)), (Ev.Prp.mk x8.name (Ev.Val.mk x8.val.kind x8.val.n x8.val.s x8.val.l)), ())).bind fun (y9, _) => 
  (bif !y9 then kr (false, ())
  else rec (v3, ()))

theorem R_slices_EqualFunc_api_Prop_api_Prop_api_Prop_api_Prop_espalierref_SameProps_1_s0 {ρ : Type} (n : Nat) (kx : Unit → Option ρ) (kr : Bool × Unit → Option ρ) (l : List Ev.Prp) (fuel : Nat) (v3 : List Ev.Prp) (hl : l.length ≤ 9223372036854775807) (hf : l.length < fuel) :
    iterN (fun rc => slices_EqualFunc_api_Prop_api_Prop_api_Prop_api_Prop_espalierref_SameProps_1_s0 n rc kx kr) fuel (v3, l, (l.length : Int), 0, ()) = foldK (F_slices_EqualFunc_api_Prop_api_Prop_api_Prop_api_Prop_espalierref_SameProps_1_s0 n kr) (fun (v3, _) => kx (())) 0 l (v3, ()) :=
  range_listM l (fun i (v3, _) => (v3, l, (l.length : Int), i, ())) _ _ _ (fun rec i s => rfl) hl fuel (v3, ()) hf

/-- slices.EqualFunc   api.Prop,  api.Prop,api.Prop,api.Prop  -/
noncomputable def slices_EqualFunc_api_Prop_api_Prop_api_Prop_api_Prop_espalierref_SameProps_1 (n : Nat) : (List Ev.Prp) × (List Ev.Prp) × Unit → Option (Bool × Unit) :=
  fun (a1, a2, _) => 
  (bif ((a1.length : Int) : Int) != (a2.length : Int) then some (false, ())
  else 
  iterN (fun rc11 => slices_EqualFunc_api_Prop_api_Prop_api_Prop_api_Prop_espalierref_SameProps_1_s0 n rc11 (fun (_) => some (true, ())) (fun (v10, _) => some (v10, ()))) (n) (a2, a1, (a1.length : Int), 0, ()))

/-- espalierref.SameProps -/
noncomputable def espalierref_SameProps (n : Nat) : (List Ev.Prp) × (List Ev.Prp) × Unit → Option (Bool × Unit) :=
  fun (a1, a2, _) => 
  (slices_EqualFunc_api_Prop_api_Prop_api_Prop_api_Prop_espalierref_SameProps_1 n (a1, a2, ())).bind fun (y3, _) => some (y3, ())

/-- espalierref.SameNode -/
noncomputable def espalierref_SameNode (n : Nat) : Ev.Node × Ev.Node × Unit → Option (Bool × Unit) :=
  fun (a1, a2, _) => 
  (bif (a1.id : Int) == a2.id then 
  (slices_Equal_string_string n (a1.labels, a2.labels, ())).bind fun (y3, _) => 
  (bif y3 then 
  (espalierref_SameProps n (a1.props, a2.props, ())).bind fun (y4, _) => some (y4, ())
  else some (false, ()))
  else some (false, ()))

/-- a round of a loop of slices.EqualFunc   api.Node,  api.Node,api.Node,api.Node  -/
noncomputable def slices_EqualFunc_api_Node_api_Node_api_Node_api_Node_espalierref_SameNode_s0 {ρ : Type} (n : Nat) (rec : (List Ev.Node) × (List Ev.Node) × Int × Int × Unit → Option ρ) (kx : Unit → Option ρ) (kr : Bool × Unit → Option ρ) : (List Ev.Node) × (List Ev.Node) × Int × Int × Unit → Option ρ :=
  fun (v3, v4, v5, v6, _) => 
  (bif decide ((v6 : Int) < v5) then 
  (ix v4 v6).bind fun x7 => 
  (ix v3 v6).bind fun x8 => 
  (espalierref_SameNode n ((Ev.Node.mk x7.id x7.labels x7.props), (Ev.Node.mk x8.id x8.labels x8.props), ())).bind fun (y9, _) => 
  (bif !y9 then kr (false, ())
  else rec (v3, v4, v5, IntKind.wrap .i64 (v6 + 1), ()))
  else kx (()))

noncomputable def F_slices_EqualFunc_api_Node_api_Node_api_Node_api_Node_espalierref_SameNode_s0 {ρ : Type} (n : Nat) (kr : Bool × Unit → Option ρ) : Int → Ev.Node → ((List Ev.Node) × Unit) → (((List Ev.Node) × Unit) → Option ρ) → Option ρ :=
  fun v6 x7 (v3, _) rec =>  
  (ix v3 v6).bind fun x8 => 
  (espalierref_SameNode n ((Ev.Node.mk x7.id x7.labels x7.props), (Ev.Node.mk x8.id x8.labels x8.props), ())).bind fun (y9, _) => 
  (bif !y9 then kr (false, ())
  else rec (v3, ()))

theorem R_slices_EqualFunc_api_Node_api_Node_api_Node_api_Node_espalierref_SameNode_s0 {ρ : Type} (n : Nat) (kx : Unit → Option ρ) (kr : Bool × Unit → Option ρ) (l : List Ev.Node) (fuel : Nat) (v3 : List Ev.Node) (hl : l.length ≤ 9223372036854775807) (hf : l.length < fuel) :
    iterN (fun rc => slices_EqualFunc_api_Node_api_Node_api_Node_api_Node_espalierref_SameNode_s0 n rc kx kr) fuel (v3, l, (l.length : Int), 0, ()) = foldK (F_slices_EqualFunc_api_Node_api_Node_api_Node_api_Node_espalierref_SameNode_s0 n kr) (fun (v3, _) => kx (())) 0 l (v3, ()) :=
  range_listM l (fun i (v3, _) => (v3, l, (l.length : Int), i, ())) _ _ _ (fun rec i s => rfl) hl fuel (v3, ()) hf

/-- slices.EqualFunc   api.Node,  api.Node,api.Node,api.Node  -/
noncomputable def slices_EqualFunc_api_Node_api_Node_api_Node_api_Node_espalierref_SameNode (n : Nat) : (List Ev.Node) × (List Ev.Node) × Unit → Option (Bool × Unit) :=
  fun (a1, a2, _) => 
  (bif ((a1.length : Int) : Int) != (a2.length : Int) then some (false, ())
  else 
  iterN (fun rc11 => slices_EqualFunc_api_Node_api_Node_api_Node_api_Node_espalierref_SameNode_s0 n rc11 (fun (_) => some (true, ())) (fun (v10, _) => some (v10, ()))) (n) (a2, a1, (a1.length : Int), 0, ()))

/-- espalierref.SameEdge -/
noncomputable def espalierref_SameEdge (n : Nat) : Ev.Edg × Ev.Edg × Unit → Option (Bool × Unit) :=
  fun (a1, a2, _) => 
  (bif ((((a1.id : Int) == a2.id) && ((a1.src : Int) == a2.src)) && ((a1.dst : Int) == a2.dst)) && (seq a1.type a2.type) then 
  (espalierref_SameProps n (a1.props, a2.props, ())).bind fun (y3, _) => some (y3, ())
  else some (false, ()))

/-- a round of a loop of slices.EqualFunc   api.Edge,  api.Edge,api.Edge,api.Edge  -/
noncomputable def slices_EqualFunc_api_Edge_api_Edge_api_Edge_api_Edge_espalierref_SameEdge_s0 {ρ : Type} (n : Nat) (rec : (List Ev.Edg) × (List Ev.Edg) × Int × Int × Unit → Option ρ) (kx : Unit → Option ρ) (kr : Bool × Unit → Option ρ) : (List Ev.Edg) × (List Ev.Edg) × Int × Int × Unit → Option ρ :=
  fun (v3, v4, v5, v6, _) => 
  (bif decide ((v6 : Int) < v5) then 
  (ix v4 v6).bind fun x7 => 
  (ix v3 v6).bind fun x8 => 
  (espalierref_SameEdge n ((Ev.Edg.mk x7.id x7.src x7.dst x7.type x7.props), (Ev.Edg.mk x8.id x8.src x8.dst x8.type x8.props), ())).bind fun (y9, _) => 
  (bif !y9 then kr (false, ())
  else rec (v3, v4, v5, IntKind.wrap .i64 (v6 + 1), ()))
  else kx (()))

noncomputable def F_slices_EqualFunc_api_Edge_api_Edge_api_Edge_api_Edge_espalierref_SameEdge_s0 {ρ : Type} (n : Nat) (kr : Bool × Unit → Option ρ) : Int → Ev.Edg → ((List Ev.Edg) × Unit) → (((List Ev.Edg) × Unit) → Option ρ) → Option ρ :=
  fun v6 x7 (v3, _) rec =>  
  (ix v3 v6).bind fun x8 => 
  (espalierref_SameEdge n ((Ev.Edg.mk x7.id x7.src x7.dst x7.type x7.props), (Ev.Edg.mk x8.id x8.src x8.dst x8.type x8.props), ())).bind fun (y9, _) => 
  (bif !y9 then kr (false, ())
  else rec (v3, ()))

theorem R_slices_EqualFunc_api_Edge_api_Edge_api_Edge_api_Edge_espalierref_SameEdge_s0 {ρ : Type} (n : Nat) (kx : Unit → Option ρ) (kr : Bool × Unit → Option ρ) (l : List Ev.Edg) (fuel : Nat) (v3 : List Ev.Edg) (hl : l.length ≤ 9223372036854775807) (hf : l.length < fuel) :
    iterN (fun rc => slices_EqualFunc_api_Edge_api_Edge_api_Edge_api_Edge_espalierref_SameEdge_s0 n rc kx kr) fuel (v3, l, (l.length : Int), 0, ()) = foldK (F_slices_EqualFunc_api_Edge_api_Edge_api_Edge_api_Edge_espalierref_SameEdge_s0 n kr) (fun (v3, _) => kx (())) 0 l (v3, ()) :=
  range_listM l (fun i (v3, _) => (v3, l, (l.length : Int), i, ())) _ _ _ (fun rec i s => rfl) hl fuel (v3, ()) hf

/-- slices.EqualFunc   api.Edge,  api.Edge,api.Edge,api.Edge  -/
noncomputable def slices_EqualFunc_api_Edge_api_Edge_api_Edge_api_Edge_espalierref_SameEdge (n : Nat) : (List Ev.Edg) × (List Ev.Edg) × Unit → Option (Bool × Unit) :=
  fun (a1, a2, _) => 
  (bif ((a1.length : Int) : Int) != (a2.length : Int) then some (false, ())
  else 
  iterN (fun rc11 => slices_EqualFunc_api_Edge_api_Edge_api_Edge_api_Edge_espalierref_SameEdge_s0 n rc11 (fun (_) => some (true, ())) (fun (v10, _) => some (v10, ()))) (n) (a2, a1, (a1.length : Int), 0, ()))

/-- espalierref.SameGraph -/
noncomputable def espalierref_SameGraph (n : Nat) : Ev.Graph × Ev.Graph × Unit → Option (Bool × Unit) :=
  fun (a1, a2, _) => 
  (bif (a1.next : Int) == a2.next then 
  (slices_EqualFunc_api_Node_api_Node_api_Node_api_Node_espalierref_SameNode n (a1.nodes, a2.nodes, ())).bind fun (y3, _) => 
  (bif y3 then 
  (slices_EqualFunc_api_Edge_api_Edge_api_Edge_api_Edge_espalierref_SameEdge n (a1.edges, a2.edges, ())).bind fun (y4, _) => some (y4, ())
  else some (false, ()))
  else some (false, ()))

/-- espalierlaw.GrantSee -/
noncomputable def espalierlaw_GrantSee (n : Nat) : (List Ev.Grant) × ByteArray × Ev.Graph × Unit → Option (Bool × Unit) :=
  fun (a1, a2, a3, _) => 
  (grant_See n (a1, a2, (Ev.Graph.mk a3.nodes a3.edges a3.next), ())).bind fun (y4, y5, _) => 
  (espalierlaw_seenBy n (a1, a2, (Ev.Graph.mk a3.nodes a3.edges a3.next), ())).bind fun (y6, y7, y8, _) => 
  (espalierlaw_granted n (())).bind fun (y9, _) => 
  (bif y9 then 
  (grant_Check n (a1, ())).bind fun (y10, _) => 
  (espalierlaw_checkGrants n (a1, ())).bind fun (y11, _) => 
  (bif ((y10 : Int) == y11) && ((y5 : Int) == y8) then 
  (espalierref_SameGraph n ((Ev.Graph.mk y4.nodes y4.edges y4.next), (Ev.Graph.mk y6.nodes y6.edges y6.next), ())).bind fun (y12, _) => some (y12, ())
  else some (false, ()))
  else some (false, ()))

/-- grant.May$1 -/
noncomputable def grant_May_1 : Ev.Grant × (ByteArray × Unit) × Unit → Option (Bool × (ByteArray × Unit) × Unit) :=
  fun (a1, o2, _) => some (seq a1.who o2.1, (o2.1, ()), ())

/-- a round of a loop of slices.IndexFunc   api.Grant,api.Grant  -/
noncomputable def slices_IndexFunc_api_Grant_api_Grant_grant_May_1_c_s0 {ρ : Type} (n : Nat) (rec : (List Ev.Grant) × Int × Int × (ByteArray × Unit) × Unit → Option ρ) (kx : (ByteArray × Unit) × Unit → Option ρ) (kr : Int × (ByteArray × Unit) × Unit → Option ρ) : (List Ev.Grant) × Int × Int × (ByteArray × Unit) × Unit → Option ρ :=
  fun (v3, v4, v5, o6, _) => 
  (bif decide ((v5 : Int) < v4) then 
  (ix v3 v5).bind fun x7 => 
  (grant_May_1 ((Ev.Grant.mk x7.who x7.labels), (o6.1, ()), ())).bind fun (y8, o9, _) => 
  (bif y8 then kr (v5, (o9.1, ()), ())
  else rec (v3, v4, IntKind.wrap .i64 (v5 + 1), (o9.1, ()), ()))
  else kx ((o6.1, ()), ()))

noncomputable def F_slices_IndexFunc_api_Grant_api_Grant_grant_May_1_c_s0 {ρ : Type} (n : Nat) (kr : Int × (ByteArray × Unit) × Unit → Option ρ) : Int → Ev.Grant → ((ByteArray × Unit) × Unit) → (((ByteArray × Unit) × Unit) → Option ρ) → Option ρ :=
  fun v5 x7 (o6, _) rec =>  
  (grant_May_1 ((Ev.Grant.mk x7.who x7.labels), (o6.1, ()), ())).bind fun (y8, o9, _) => 
  (bif y8 then kr (v5, (o9.1, ()), ())
  else rec ((o9.1, ()), ()))

theorem R_slices_IndexFunc_api_Grant_api_Grant_grant_May_1_c_s0 {ρ : Type} (n : Nat) (kx : (ByteArray × Unit) × Unit → Option ρ) (kr : Int × (ByteArray × Unit) × Unit → Option ρ) (l : List Ev.Grant) (fuel : Nat) (o6 : ByteArray × Unit) (hl : l.length ≤ 9223372036854775807) (hf : l.length < fuel) :
    iterN (fun rc => slices_IndexFunc_api_Grant_api_Grant_grant_May_1_c_s0 n rc kx kr) fuel (l, (l.length : Int), 0, o6, ()) = foldK (F_slices_IndexFunc_api_Grant_api_Grant_grant_May_1_c_s0 n kr) (fun (o6, _) => kx ((o6.1, ()), ())) 0 l (o6, ()) :=
  range_listM l (fun i (o6, _) => (l, (l.length : Int), i, o6, ())) _ _ _ (fun rec i s => rfl) hl fuel (o6, ()) hf

/-- slices.IndexFunc   api.Grant,api.Grant  -/
noncomputable def slices_IndexFunc_api_Grant_api_Grant_grant_May_1_c (n : Nat) : (List Ev.Grant) × (ByteArray × Unit) × Unit → Option (Int × (ByteArray × Unit) × Unit) :=
  fun (a1, o2, _) => 
  iterN (fun rc13 => slices_IndexFunc_api_Grant_api_Grant_grant_May_1_c_s0 n rc13 (fun (o10, _) => some ((-1), (o10.1, ()), ())) (fun (v11, o12, _) => some (v11, (o12.1, ()), ()))) (n) (a1, (a1.length : Int), 0, (o2.1, ()), ())

/-- grant.May$2 -/
noncomputable def grant_May_2 (n : Nat) : Int × (Ev.Graph × Unit) × Unit → Option (Bool × (Ev.Graph × Unit) × Unit) :=
  fun (a1, o2, _) => 
  (graph_Find n ((Ev.Graph.mk o2.1.nodes o2.1.edges o2.1.next), a1, ())).bind fun (y3, _) => some (decide ((y3 : Int) ≥ 0), ((Ev.Graph.mk o2.1.nodes o2.1.edges o2.1.next), ()), ())

/-- graph.FindEdge$1 -/
noncomputable def graph_FindEdge_1 : Ev.Edg × Int × Unit → Option (Int × Unit) :=
  fun (a1, a2, _) => 
  (cmp_Compare_int (a1.id, a2, ())).bind fun (y3, _) => some (y3, ())

/-- a round of a loop of slices.BinarySearchFunc   api.Edge,api.Edge,int  -/
noncomputable def slices_BinarySearchFunc_api_Edge_api_Edge_int_graph_FindEdge_1_s0 {ρ : Type} (n : Nat) (rec : (List Ev.Edg) × Int × Int × Int × Int × Unit → Option ρ) (kx : (List Ev.Edg) × Int × Int × Int × Unit → Option ρ) (kr : Unit → Option ρ) : (List Ev.Edg) × Int × Int × Int × Int × Unit → Option ρ :=
  fun (v3, v4, v5, v6, v7, _) => 
  (bif decide ((v6 : Int) < v7) then 
  (ix v3 (IntKind.wrap .i64 (bshr .u64 (IntKind.wrap .u64 (IntKind.wrap .i64 (v6 + v7))) 1))).bind fun x8 => 
  (graph_FindEdge_1 ((Ev.Edg.mk x8.id x8.src x8.dst x8.type x8.props), v4, ())).bind fun (y9, _) => 
  (bif decide ((y9 : Int) < 0) then rec (v3, v4, v5, IntKind.wrap .i64 ((IntKind.wrap .i64 (bshr .u64 (IntKind.wrap .u64 (IntKind.wrap .i64 (v6 + v7))) 1)) + 1), v7, ())
  else rec (v3, v4, v5, v6, IntKind.wrap .i64 (bshr .u64 (IntKind.wrap .u64 (IntKind.wrap .i64 (v6 + v7))) 1), ()))
  else kx (v3, v4, v5, v6, ()))

/-- slices.BinarySearchFunc   api.Edge,api.Edge,int  -/
noncomputable def slices_BinarySearchFunc_api_Edge_api_Edge_int_graph_FindEdge_1 (n : Nat) : (List Ev.Edg) × Int × Unit → Option (Int × Bool × Unit) :=
  fun (a1, a2, _) => 
  iterN (fun rc16 => slices_BinarySearchFunc_api_Edge_api_Edge_int_graph_FindEdge_1_s0 n rc16 (fun (v10, v11, v12, v13, _) => 
  (bif decide ((v13 : Int) < v12) then 
  (ix v10 v13).bind fun x14 => 
  (graph_FindEdge_1 ((Ev.Edg.mk x14.id x14.src x14.dst x14.type x14.props), v11, ())).bind fun (y15, _) => some (v13, (y15 : Int) == 0, ())
  else some (v13, false, ()))) (fun (_) => none)) (n) (a1, a2, (a1.length : Int), 0, (a1.length : Int), ())

/-- graph.FindEdge -/
noncomputable def graph_FindEdge (n : Nat) : Ev.Graph × Int × Unit → Option (Int × Unit) :=
  fun (a1, a2, _) => 
  (slices_BinarySearchFunc_api_Edge_api_Edge_int_graph_FindEdge_1 n (a1.edges, a2, ())).bind fun (y3, y4, _) => 
  (bif !y4 then some ((-1), ())
  else some (y3, ()))

/-- grant.May -/
noncomputable def grant_May (n : Nat) : (List Ev.Grant) × ByteArray × Ev.Graph × Ev.Opn × Unit → Option (Bool × Int × Unit) :=
  fun (a1, a2, a3, a4, _) => 
  (grant_See n (a1, a2, (Ev.Graph.mk a3.nodes a3.edges a3.next), ())).bind fun (y5, y6, _) => 
  (bif (y6 : Int) != 0 then some (false, y6, ())
  else 
  (slices_IndexFunc_api_Grant_api_Grant_grant_May_1_c n (a1, (a2, ()), ())).bind fun (y7, o8, _) => 
  (bif (a4.kind : Int) == 1 then 
  (ix a1 y7).bind fun x10 => 
  (grant_sees n ((Ev.Grant.mk x10.who x10.labels), (Ev.Node.mk 0 a4.labels ([] : List Ev.Prp)), ())).bind fun (y11, _) => some (y11, 0, ())
  else 
  (bif (a4.kind : Int) == 2 then 
  (grant_May_2 n (a4.src, ((Ev.Graph.mk y5.nodes y5.edges y5.next), ()), ())).bind fun (y12, o13, _) => 
  (bif y12 then 
  (grant_May_2 n (a4.dst, ((Ev.Graph.mk o13.1.nodes o13.1.edges o13.1.next), ()), ())).bind fun (y14, o15, _) => some (y14, 0, ())
  else some (false, 0, ()))
  else 
  (bif (a4.kind : Int) == 4 then 
  (graph_FindEdge n ((Ev.Graph.mk y5.nodes y5.edges y5.next), a4.id, ())).bind fun (y16, _) => some (decide ((y16 : Int) ≥ 0), 0, ())
  else 
  (bif (a4.kind : Int) == 5 then 
  (grant_May_2 n (a4.id, ((Ev.Graph.mk y5.nodes y5.edges y5.next), ()), ())).bind fun (y17, o18, _) => 
  (bif y17 then some (true, 0, ())
  else 
  (graph_FindEdge n ((Ev.Graph.mk o18.1.nodes o18.1.edges o18.1.next), a4.id, ())).bind fun (y19, _) => some (decide ((y19 : Int) ≥ 0), 0, ()))
  else 
  (bif (a4.kind : Int) == 3 then 
  (bif (a4.kind : Int) == 3 then 
  (grant_May_2 n (a4.id, ((Ev.Graph.mk y5.nodes y5.edges y5.next), ()), ())).bind fun (y20, o21, _) => some (y20, 0, ())
  else some (false, 0, ()))
  else 
  (bif (a4.kind : Int) == 6 then 
  (bif (a4.kind : Int) == 6 then 
  (grant_May_2 n (a4.id, ((Ev.Graph.mk y5.nodes y5.edges y5.next), ()), ())).bind fun (y22, o23, _) => some (y22, 0, ())
  else some (false, 0, ()))
  else 
  (bif (a4.kind : Int) == 7 then 
  (grant_May_2 n (a4.id, ((Ev.Graph.mk y5.nodes y5.edges y5.next), ()), ())).bind fun (y24, o25, _) => some (y24, 0, ())
  else some (false, 0, ())))))))))

/-- a round of a loop of espalierref.EdgeAt -/
noncomputable def espalierref_EdgeAt_s0 {ρ : Type} (n : Nat) (rec : Int × Int × Int × (Ev.Graph × Unit) × Unit → Option ρ) (kx : Unit → Option ρ) (kr : Ev.Edg × Unit → Option ρ) : Int × Int × Int × (Ev.Graph × Unit) × Unit → Option ρ :=
  fun (v3, v4, v5, o6, _) => 
  (bif decide ((v5 : Int) < v4) then 
  (ix o6.1.edges v5).bind fun x7 => 
  (bif (x7.id : Int) == v3 then 
  (ix o6.1.edges v5).bind fun x8 => kr ((Ev.Edg.mk x8.id x8.src x8.dst x8.type x8.props), ())
  else rec (v3, v4, IntKind.wrap .i64 (v5 + 1), ((Ev.Graph.mk o6.1.nodes o6.1.edges o6.1.next), ()), ()))
  else kx (()))

/-- espalierref.EdgeAt -/
noncomputable def espalierref_EdgeAt (n : Nat) : Ev.Graph × Int × Unit → Option ((Option Ev.Edg) × Unit) :=
  fun (a1, a2, _) => 
  iterN (fun rc10 => espalierref_EdgeAt_s0 n rc10 (fun (_) => some (none, ())) (fun (v9, _) => some (some (Ev.Edg.mk v9.id v9.src v9.dst v9.type v9.props), ()))) (n) (a2, (a1.edges.length : Int), 0, ((Ev.Graph.mk a1.nodes a1.edges a1.next), ()), ())

/-- espalierlaw.GrantMay -/
noncomputable def espalierlaw_GrantMay (n : Nat) : (List Ev.Grant) × ByteArray × Ev.Graph × Ev.Opn × Unit → Option (Bool × Unit) :=
  fun (a1, a2, a3, a4, _) => 
  (grant_May n (a1, a2, (Ev.Graph.mk a3.nodes a3.edges a3.next), (Ev.Opn.mk a4.kind a4.id a4.src a4.dst a4.name (Ev.Val.mk a4.val.kind a4.val.n a4.val.s a4.val.l) a4.labels a4.props), ())).bind fun (y5, y6, _) => 
  (espalierlaw_seenBy n (a1, a2, (Ev.Graph.mk a3.nodes a3.edges a3.next), ())).bind fun (y7, y8, y9, _) => 
  (espalierlaw_granted n (())).bind fun (y10, _) => 
  (bif (!y10) || ((y9 : Int) != 0) then 
  (espalierlaw_granted n (())).bind fun (y11, _) => some ((y11 && ((y6 : Int) == y9)) && (!y5), ())
  else 
  (espalierref_NodeAt n ((Ev.Graph.mk y7.nodes y7.edges y7.next), a4.id, ())).bind fun (y12, _) => 
  optC y12 (
  (espalierref_EdgeAt n ((Ev.Graph.mk y7.nodes y7.edges y7.next), a4.id, ())).bind fun (y14, _) => 
  optC y14 (
  (bif (a4.kind : Int) == 1 then 
  (espalierref_Seen n (y8, (Ev.Graph.mk ([(Ev.Node.mk 1 a4.labels ([] : List Ev.Prp))] : List Ev.Node) ([] : List Ev.Edg) 0), ())).bind fun (y16, _) => some (((y6 : Int) == 0) && (y5 == (((y16.nodes.length : Int) : Int) == 1)), ())
  else 
  (bif (a4.kind : Int) == 2 then 
  (espalierref_NodeAt n ((Ev.Graph.mk y7.nodes y7.edges y7.next), a4.src, ())).bind fun (y17, _) => 
  optC y17 (some (((y6 : Int) == 0) && (y5 == false), ())) (fun z18 => 
  (espalierref_NodeAt n ((Ev.Graph.mk y7.nodes y7.edges y7.next), a4.dst, ())).bind fun (y19, _) => 
  optC y19 (some (((y6 : Int) == 0) && (y5 == false), ())) (fun z20 => some (((y6 : Int) == 0) && (y5 == true), ())))
  else 
  (bif (a4.kind : Int) == 3 then 
  (bif (a4.kind : Int) == 3 then some (((y6 : Int) == 0) && (y5 == false), ())
  else 
  (bif (a4.kind : Int) == 4 then some (((y6 : Int) == 0) && (y5 == false), ())
  else 
  (bif (a4.kind : Int) == 5 then some (((y6 : Int) == 0) && (y5 == false), ())
  else some (((y6 : Int) == 0) && (y5 == false), ()))))
  else 
  (bif (a4.kind : Int) == 6 then 
  (bif (a4.kind : Int) == 6 then some (((y6 : Int) == 0) && (y5 == false), ())
  else 
  (bif (a4.kind : Int) == 4 then some (((y6 : Int) == 0) && (y5 == false), ())
  else 
  (bif (a4.kind : Int) == 5 then some (((y6 : Int) == 0) && (y5 == false), ())
  else some (((y6 : Int) == 0) && (y5 == false), ()))))
  else 
  (bif (a4.kind : Int) == 7 then some (((y6 : Int) == 0) && (y5 == false), ())
  else 
  (bif (a4.kind : Int) == 4 then some (((y6 : Int) == 0) && (y5 == false), ())
  else 
  (bif (a4.kind : Int) == 5 then some (((y6 : Int) == 0) && (y5 == false), ())
  else some (((y6 : Int) == 0) && (y5 == false), ()))))))))) (fun z15 => 
  (bif (a4.kind : Int) == 1 then 
  (espalierref_Seen n (y8, (Ev.Graph.mk ([(Ev.Node.mk 1 a4.labels ([] : List Ev.Prp))] : List Ev.Node) ([] : List Ev.Edg) 0), ())).bind fun (y21, _) => some (((y6 : Int) == 0) && (y5 == (((y21.nodes.length : Int) : Int) == 1)), ())
  else 
  (bif (a4.kind : Int) == 2 then 
  (espalierref_NodeAt n ((Ev.Graph.mk y7.nodes y7.edges y7.next), a4.src, ())).bind fun (y22, _) => 
  optC y22 (some (((y6 : Int) == 0) && (y5 == false), ())) (fun z23 => 
  (espalierref_NodeAt n ((Ev.Graph.mk y7.nodes y7.edges y7.next), a4.dst, ())).bind fun (y24, _) => 
  optC y24 (some (((y6 : Int) == 0) && (y5 == false), ())) (fun z25 => some (((y6 : Int) == 0) && (y5 == true), ())))
  else 
  (bif (a4.kind : Int) == 3 then 
  (bif (a4.kind : Int) == 3 then some (((y6 : Int) == 0) && (y5 == false), ())
  else 
  (bif (a4.kind : Int) == 4 then some (((y6 : Int) == 0) && (y5 == true), ())
  else 
  (bif (a4.kind : Int) == 5 then some (((y6 : Int) == 0) && (y5 == true), ())
  else some (((y6 : Int) == 0) && (y5 == false), ()))))
  else 
  (bif (a4.kind : Int) == 6 then 
  (bif (a4.kind : Int) == 6 then some (((y6 : Int) == 0) && (y5 == false), ())
  else 
  (bif (a4.kind : Int) == 4 then some (((y6 : Int) == 0) && (y5 == true), ())
  else 
  (bif (a4.kind : Int) == 5 then some (((y6 : Int) == 0) && (y5 == true), ())
  else some (((y6 : Int) == 0) && (y5 == false), ()))))
  else 
  (bif (a4.kind : Int) == 7 then some (((y6 : Int) == 0) && (y5 == false), ())
  else 
  (bif (a4.kind : Int) == 4 then some (((y6 : Int) == 0) && (y5 == true), ())
  else 
  (bif (a4.kind : Int) == 5 then some (((y6 : Int) == 0) && (y5 == true), ())
  else some (((y6 : Int) == 0) && (y5 == false), ())))))))))) (fun z13 => 
  (espalierref_EdgeAt n ((Ev.Graph.mk y7.nodes y7.edges y7.next), a4.id, ())).bind fun (y26, _) => 
  optC y26 (
  (bif (a4.kind : Int) == 1 then 
  (espalierref_Seen n (y8, (Ev.Graph.mk ([(Ev.Node.mk 1 a4.labels ([] : List Ev.Prp))] : List Ev.Node) ([] : List Ev.Edg) 0), ())).bind fun (y28, _) => some (((y6 : Int) == 0) && (y5 == (((y28.nodes.length : Int) : Int) == 1)), ())
  else 
  (bif (a4.kind : Int) == 2 then 
  (espalierref_NodeAt n ((Ev.Graph.mk y7.nodes y7.edges y7.next), a4.src, ())).bind fun (y29, _) => 
  optC y29 (some (((y6 : Int) == 0) && (y5 == false), ())) (fun z30 => 
  (espalierref_NodeAt n ((Ev.Graph.mk y7.nodes y7.edges y7.next), a4.dst, ())).bind fun (y31, _) => 
  optC y31 (some (((y6 : Int) == 0) && (y5 == false), ())) (fun z32 => some (((y6 : Int) == 0) && (y5 == true), ())))
  else 
  (bif (a4.kind : Int) == 3 then 
  (bif (a4.kind : Int) == 3 then some (((y6 : Int) == 0) && (y5 == true), ())
  else 
  (bif (a4.kind : Int) == 4 then some (((y6 : Int) == 0) && (y5 == false), ())
  else 
  (bif (a4.kind : Int) == 5 then some (((y6 : Int) == 0) && (y5 == true), ())
  else some (((y6 : Int) == 0) && (y5 == false), ()))))
  else 
  (bif (a4.kind : Int) == 6 then 
  (bif (a4.kind : Int) == 6 then some (((y6 : Int) == 0) && (y5 == true), ())
  else 
  (bif (a4.kind : Int) == 4 then some (((y6 : Int) == 0) && (y5 == false), ())
  else 
  (bif (a4.kind : Int) == 5 then some (((y6 : Int) == 0) && (y5 == true), ())
  else some (((y6 : Int) == 0) && (y5 == false), ()))))
  else 
  (bif (a4.kind : Int) == 7 then some (((y6 : Int) == 0) && (y5 == true), ())
  else 
  (bif (a4.kind : Int) == 4 then some (((y6 : Int) == 0) && (y5 == false), ())
  else 
  (bif (a4.kind : Int) == 5 then some (((y6 : Int) == 0) && (y5 == true), ())
  else some (((y6 : Int) == 0) && (y5 == false), ()))))))))) (fun z27 => 
  (bif (a4.kind : Int) == 1 then 
  (espalierref_Seen n (y8, (Ev.Graph.mk ([(Ev.Node.mk 1 a4.labels ([] : List Ev.Prp))] : List Ev.Node) ([] : List Ev.Edg) 0), ())).bind fun (y33, _) => some (((y6 : Int) == 0) && (y5 == (((y33.nodes.length : Int) : Int) == 1)), ())
  else 
  (bif (a4.kind : Int) == 2 then 
  (espalierref_NodeAt n ((Ev.Graph.mk y7.nodes y7.edges y7.next), a4.src, ())).bind fun (y34, _) => 
  optC y34 (some (((y6 : Int) == 0) && (y5 == false), ())) (fun z35 => 
  (espalierref_NodeAt n ((Ev.Graph.mk y7.nodes y7.edges y7.next), a4.dst, ())).bind fun (y36, _) => 
  optC y36 (some (((y6 : Int) == 0) && (y5 == false), ())) (fun z37 => some (((y6 : Int) == 0) && (y5 == true), ())))
  else 
  (bif (a4.kind : Int) == 3 then 
  (bif (a4.kind : Int) == 3 then some (((y6 : Int) == 0) && (y5 == true), ())
  else 
  (bif (a4.kind : Int) == 4 then some (((y6 : Int) == 0) && (y5 == true), ())
  else 
  (bif (a4.kind : Int) == 5 then some (((y6 : Int) == 0) && (y5 == true), ())
  else some (((y6 : Int) == 0) && (y5 == false), ()))))
  else 
  (bif (a4.kind : Int) == 6 then 
  (bif (a4.kind : Int) == 6 then some (((y6 : Int) == 0) && (y5 == true), ())
  else 
  (bif (a4.kind : Int) == 4 then some (((y6 : Int) == 0) && (y5 == true), ())
  else 
  (bif (a4.kind : Int) == 5 then some (((y6 : Int) == 0) && (y5 == true), ())
  else some (((y6 : Int) == 0) && (y5 == false), ()))))
  else 
  (bif (a4.kind : Int) == 7 then some (((y6 : Int) == 0) && (y5 == true), ())
  else 
  (bif (a4.kind : Int) == 4 then some (((y6 : Int) == 0) && (y5 == true), ())
  else 
  (bif (a4.kind : Int) == 5 then some (((y6 : Int) == 0) && (y5 == true), ())
  else some (((y6 : Int) == 0) && (y5 == false), ())))))))))))

/-- a round of a loop of espalierlaw.GrantTwice$1 -/
noncomputable def espalierlaw_GrantTwice_1_s0 {ρ : Type} (n : Nat) (rec : ByteArray × (List Ev.Grant) × Int × Int × ((List Ev.Grant) × Unit) × Unit → Option ρ) (kx : ((List Ev.Grant) × Unit) × Unit → Option ρ) (kr : (List ByteArray) × ((List Ev.Grant) × Unit) × Unit → Option ρ) : ByteArray × (List Ev.Grant) × Int × Int × ((List Ev.Grant) × Unit) × Unit → Option ρ :=
  fun (v3, v4, v5, v6, o7, _) => 
  (bif decide ((v6 : Int) < v5) then 
  (ix v4 v6).bind fun x8 => 
  (bif seq x8.who v3 then kr (x8.labels, (o7.1, ()), ())
  else rec (v3, v4, v5, IntKind.wrap .i64 (v6 + 1), (o7.1, ()), ()))
  else kx ((o7.1, ()), ()))

noncomputable def F_espalierlaw_GrantTwice_1_s0 {ρ : Type} (n : Nat) (kr : (List ByteArray) × ((List Ev.Grant) × Unit) × Unit → Option ρ) : Int → Ev.Grant → (ByteArray × ((List Ev.Grant) × Unit) × Unit) → ((ByteArray × ((List Ev.Grant) × Unit) × Unit) → Option ρ) → Option ρ :=
  fun v6 x8 (v3, o7, _) rec =>  
  (bif seq x8.who v3 then kr (x8.labels, (o7.1, ()), ())
  else rec (v3, (o7.1, ()), ()))

theorem R_espalierlaw_GrantTwice_1_s0 {ρ : Type} (n : Nat) (kx : ((List Ev.Grant) × Unit) × Unit → Option ρ) (kr : (List ByteArray) × ((List Ev.Grant) × Unit) × Unit → Option ρ) (l : List Ev.Grant) (fuel : Nat) (v3 : ByteArray) (o7 : (List Ev.Grant) × Unit) (hl : l.length ≤ 9223372036854775807) (hf : l.length < fuel) :
    iterN (fun rc => espalierlaw_GrantTwice_1_s0 n rc kx kr) fuel (v3, l, (l.length : Int), 0, o7, ()) = foldK (F_espalierlaw_GrantTwice_1_s0 n kr) (fun (v3, o7, _) => kx ((o7.1, ()), ())) 0 l (v3, o7, ()) :=
  range_listM l (fun i (v3, o7, _) => (v3, l, (l.length : Int), i, o7, ())) _ _ _ (fun rec i s => rfl) hl fuel (v3, o7, ()) hf

/-- espalierlaw.GrantTwice$1 -/
noncomputable def espalierlaw_GrantTwice_1 (n : Nat) : ByteArray × ((List Ev.Grant) × Unit) × Unit → Option ((List ByteArray) × ((List Ev.Grant) × Unit) × Unit) :=
  fun (a1, o2, _) => 
  iterN (fun rc12 => espalierlaw_GrantTwice_1_s0 n rc12 (fun (o9, _) => some (([] : List ByteArray), (o9.1, ()), ())) (fun (v10, o11, _) => some (v10, (o11.1, ()), ()))) (n) (a1, o2.1, (o2.1.length : Int), 0, (o2.1, ()), ())

/-- a round of a loop of espalierlaw.GrantTwice -/
noncomputable def espalierlaw_GrantTwice_s0 {ρ : Type} (n : Nat) (rec : ByteArray × (List ByteArray) × Int × Int × ((List Ev.Grant) × Unit) × (Ev.Graph × Unit) × (Ev.Graph × Unit) × Unit → Option ρ) (kx : (Ev.Graph × Unit) × (Ev.Graph × Unit) × Unit → Option ρ) (kr : Bool × Unit → Option ρ) : ByteArray × (List ByteArray) × Int × Int × ((List Ev.Grant) × Unit) × (Ev.Graph × Unit) × (Ev.Graph × Unit) × Unit → Option ρ :=
  fun (v16, v17, v18, v19, o20, o21, o22, _) => 
  (bif decide ((v19 : Int) < v18) then 
  (ix v17 v19).bind fun x23 => 
  (espalierlaw_GrantTwice_1 n (v16, (o20.1, ()), ())).bind fun (y24, o25, _) => 
  (slices_Contains_string_string n (y24, x23, ())).bind fun (y26, _) => 
  (bif !y26 then kr (true, ())
  else rec (v16, v17, v18, IntKind.wrap .i64 (v19 + 1), (o25.1, ()), ((Ev.Graph.mk o21.1.nodes o21.1.edges o21.1.next), ()), ((Ev.Graph.mk o22.1.nodes o22.1.edges o22.1.next), ()), ()))
  else kx (((Ev.Graph.mk o21.1.nodes o21.1.edges o21.1.next), ()), ((Ev.Graph.mk o22.1.nodes o22.1.edges o22.1.next), ()), ()))

/-- a round of a loop of espalierlaw.GrantTwice -/
noncomputable def espalierlaw_GrantTwice_s2 {ρ : Type} (n : Nat) (rec : (List Ev.Node) × Int × Int × (Ev.Graph × Unit) × (Ev.Graph × Unit) × Unit → Option ρ) (kx : (Ev.Graph × Unit) × (Ev.Graph × Unit) × Unit → Option ρ) (kr : Bool × Unit → Option ρ) : (List Ev.Node) × Int × Int × (Ev.Graph × Unit) × (Ev.Graph × Unit) × Unit → Option ρ :=
  fun (v30, v31, v32, o33, o34, _) => 
  (bif decide ((v32 : Int) < v31) then 
  (ix v30 v32).bind fun x35 => 
  (espalierref_NodeAt n ((Ev.Graph.mk o34.1.nodes o34.1.edges o34.1.next), x35.id, ())).bind fun (y36, _) => 
  optC y36 (kr (false, ())) (fun z37 => rec (v30, v31, IntKind.wrap .i64 (v32 + 1), ((Ev.Graph.mk o33.1.nodes o33.1.edges o33.1.next), ()), ((Ev.Graph.mk o34.1.nodes o34.1.edges o34.1.next), ()), ()))
  else kx (((Ev.Graph.mk o33.1.nodes o33.1.edges o33.1.next), ()), ((Ev.Graph.mk o34.1.nodes o34.1.edges o34.1.next), ()), ()))

noncomputable def F_espalierlaw_GrantTwice_s0 {ρ : Type} (n : Nat) (kr : Bool × Unit → Option ρ) : Int → ByteArray → (ByteArray × ((List Ev.Grant) × Unit) × (Ev.Graph × Unit) × (Ev.Graph × Unit) × Unit) → ((ByteArray × ((List Ev.Grant) × Unit) × (Ev.Graph × Unit) × (Ev.Graph × Unit) × Unit) → Option ρ) → Option ρ :=
  fun v19 x23 (v16, o20, o21, o22, _) rec =>  
  (espalierlaw_GrantTwice_1 n (v16, (o20.1, ()), ())).bind fun (y24, o25, _) => 
  (slices_Contains_string_string n (y24, x23, ())).bind fun (y26, _) => 
  (bif !y26 then kr (true, ())
  else rec (v16, (o25.1, ()), ((Ev.Graph.mk o21.1.nodes o21.1.edges o21.1.next), ()), ((Ev.Graph.mk o22.1.nodes o22.1.edges o22.1.next), ()), ()))

theorem R_espalierlaw_GrantTwice_s0 {ρ : Type} (n : Nat) (kx : (Ev.Graph × Unit) × (Ev.Graph × Unit) × Unit → Option ρ) (kr : Bool × Unit → Option ρ) (l : List ByteArray) (fuel : Nat) (v16 : ByteArray) (o20 : (List Ev.Grant) × Unit) (o21 : Ev.Graph × Unit) (o22 : Ev.Graph × Unit) (hl : l.length ≤ 9223372036854775807) (hf : l.length < fuel) :
    iterN (fun rc => espalierlaw_GrantTwice_s0 n rc kx kr) fuel (v16, l, (l.length : Int), 0, o20, o21, o22, ()) = foldK (F_espalierlaw_GrantTwice_s0 n kr) (fun (v16, o20, o21, o22, _) => kx (((Ev.Graph.mk o21.1.nodes o21.1.edges o21.1.next), ()), ((Ev.Graph.mk o22.1.nodes o22.1.edges o22.1.next), ()), ())) 0 l (v16, o20, o21, o22, ()) :=
  range_listM l (fun i (v16, o20, o21, o22, _) => (v16, l, (l.length : Int), i, o20, o21, o22, ())) _ _ _ (fun rec i s => rfl) hl fuel (v16, o20, o21, o22, ()) hf

noncomputable def F_espalierlaw_GrantTwice_s2 {ρ : Type} (n : Nat) (kr : Bool × Unit → Option ρ) : Int → Ev.Node → ((Ev.Graph × Unit) × (Ev.Graph × Unit) × Unit) → (((Ev.Graph × Unit) × (Ev.Graph × Unit) × Unit) → Option ρ) → Option ρ :=
  fun v32 x35 (o33, o34, _) rec =>  
  (espalierref_NodeAt n ((Ev.Graph.mk o34.1.nodes o34.1.edges o34.1.next), x35.id, ())).bind fun (y36, _) => 
  optC y36 (kr (false, ())) (fun z37 => rec (((Ev.Graph.mk o33.1.nodes o33.1.edges o33.1.next), ()), ((Ev.Graph.mk o34.1.nodes o34.1.edges o34.1.next), ()), ()))

theorem R_espalierlaw_GrantTwice_s2 {ρ : Type} (n : Nat) (kx : (Ev.Graph × Unit) × (Ev.Graph × Unit) × Unit → Option ρ) (kr : Bool × Unit → Option ρ) (l : List Ev.Node) (fuel : Nat) (o33 : Ev.Graph × Unit) (o34 : Ev.Graph × Unit) (hl : l.length ≤ 9223372036854775807) (hf : l.length < fuel) :
    iterN (fun rc => espalierlaw_GrantTwice_s2 n rc kx kr) fuel (l, (l.length : Int), 0, o33, o34, ()) = foldK (F_espalierlaw_GrantTwice_s2 n kr) (fun (o33, o34, _) => kx (((Ev.Graph.mk o33.1.nodes o33.1.edges o33.1.next), ()), ((Ev.Graph.mk o34.1.nodes o34.1.edges o34.1.next), ()), ())) 0 l (o33, o34, ()) :=
  range_listM l (fun i (o33, o34, _) => (l, (l.length : Int), i, o33, o34, ())) _ _ _ (fun rec i s => rfl) hl fuel (o33, o34, ()) hf

/-- espalierlaw.GrantTwice -/
noncomputable def espalierlaw_GrantTwice (n : Nat) : (List Ev.Grant) × ByteArray × ByteArray × Ev.Graph × Unit → Option (Bool × Unit) :=
  fun (a1, a2, a3, a4, _) => 
  (grant_See n (a1, a2, (Ev.Graph.mk a4.nodes a4.edges a4.next), ())).bind fun (y5, y6, _) => 
  (espalierlaw_granted n (())).bind fun (y7, _) => 
  (bif (!y7) || ((y6 : Int) != 0) then 
  (espalierlaw_granted n (())).bind fun (y8, _) => some (y8, ())
  else 
  (grant_See n (a1, a2, (Ev.Graph.mk y5.nodes y5.edges y5.next), ())).bind fun (y9, y10, _) => 
  (bif (y10 : Int) != 0 then some (false, ())
  else 
  (espalierref_SameGraph n ((Ev.Graph.mk y5.nodes y5.edges y5.next), (Ev.Graph.mk y9.nodes y9.edges y9.next), ())).bind fun (y11, _) => 
  (bif !y11 then some (false, ())
  else 
  (grant_See n (a1, a3, (Ev.Graph.mk a4.nodes a4.edges a4.next), ())).bind fun (y12, y13, _) => 
  (bif (y13 : Int) != 0 then some (true, ())
  else 
  (espalierlaw_GrantTwice_1 n (a2, (a1, ()), ())).bind fun (y14, o15, _) => 
  iterN (fun rc42 => espalierlaw_GrantTwice_s0 n rc42 (fun (o27, o28, _) => 
  iterN (fun rc41 => espalierlaw_GrantTwice_s2 n rc41 (fun (o38, o39, _) => some (decide (((o38.1.edges.length : Int) : Int) ≤ (o39.1.edges.length : Int)), ())) (fun (v40, _) => some (v40, ()))) (n) (o27.1.nodes, (o27.1.nodes.length : Int), 0, ((Ev.Graph.mk o27.1.nodes o27.1.edges o27.1.next), ()), ((Ev.Graph.mk o28.1.nodes o28.1.edges o28.1.next), ()), ())) (fun (v29, _) => some (v29, ()))) (n) (a3, y14, (y14.length : Int), 0, (o15.1, ()), ((Ev.Graph.mk y5.nodes y5.edges y5.next), ()), ((Ev.Graph.mk y12.nodes y12.edges y12.next), ()), ())))))

end Pure

/- Plain functions that compute what functions of the program compute (written by gen.py). -/
import Derived.Test.YtnfoajgolcenlaaDoorEvLib
import Derived.Test.YtnfoajgolcenlaaDoorPRange
import Derived.Test.YtnfoajgolcenlaaDoorEvSort
namespace Pure
open Esp Ev Go
set_option linter.unusedSimpArgs false
set_option linter.unusedVariables false

/-- a round of a loop of graph.Name -/
noncomputable def graph_Name_s0 {ρ : Type} (n : Nat) (rec : ByteArray × Int × Int × Unit → Option ρ) (kx : Unit → Option ρ) (kr : Bool × Unit → Option ρ) : ByteArray × Int × Int × Unit → Option ρ :=
  fun (v2, v3, v4, _) => 
  (bif decide ((v4 : Int) < v3) then 
  (sat v2 v4).bind fun c5 => 
  (bif (!((((decide ((c5 : Int) ≥ 97)) && (decide ((c5 : Int) ≤ 122))) || ((decide ((c5 : Int) ≥ 65)) && (decide ((c5 : Int) ≤ 90)))) || ((c5 : Int) == 95))) && ((((v4 : Int) == 0) || (decide ((c5 : Int) < 48))) || (decide ((c5 : Int) > 57))) then kr (false, ())
  else rec (v2, v3, IntKind.wrap .i64 (v4 + 1), ()))
  else kx (()))

noncomputable def F_graph_Name_s0 {ρ : Type} (n : Nat) (kr : Bool × Unit → Option ρ) : Int → Int → Unit → (Unit → Option ρ) → Option ρ :=
  fun v4 c5 (_) rec =>  
  (bif (!((((decide ((c5 : Int) ≥ 97)) && (decide ((c5 : Int) ≤ 122))) || ((decide ((c5 : Int) ≥ 65)) && (decide ((c5 : Int) ≤ 90)))) || ((c5 : Int) == 95))) && ((((v4 : Int) == 0) || (decide ((c5 : Int) < 48))) || (decide ((c5 : Int) > 57))) then kr (false, ())
  else rec (()))

theorem R_graph_Name_s0 {ρ : Type} (n : Nat) (kx : Unit → Option ρ) (kr : Bool × Unit → Option ρ) (l : ByteArray) (fuel : Nat) (hl : l.size ≤ 4611686018427387904) (hf : l.size < fuel) :
    iterN (fun rc => graph_Name_s0 n rc kx kr) fuel (l, (l.size : Int), 0, ()) = foldK (F_graph_Name_s0 n kr) (fun (_) => kx (())) 0 (bi l.data.toList) (()) :=
  range_str l (fun i (_) => (l, (l.size : Int), i, ())) _ _ _ (fun rec i s => rfl) hl fuel (()) hf

/-- graph.Name -/
noncomputable def graph_Name (n : Nat) : ByteArray × Unit → Option (Bool × Unit) :=
  fun (a1, _) => 
  (bif (seq a1 (⟨#[]⟩ : ByteArray)) || (decide (((a1.size : Int) : Int) > 12)) then some (false, ())
  else 
  iterN (fun rc7 => graph_Name_s0 n rc7 (fun (_) => some (true, ())) (fun (v6, _) => some (v6, ()))) (n) (a1, (a1.size : Int), 0, ()))

/-- a round of a loop of graph.Labels -/
noncomputable def graph_Labels_s0 {ρ : Type} (n : Nat) (rec : (List ByteArray) × (List ByteArray) × Int × Int × Unit → Option ρ) (kx : Unit → Option ρ) (kr : Int × Unit → Option ρ) : (List ByteArray) × (List ByteArray) × Int × Int × Unit → Option ρ :=
  fun (v2, v3, v4, v5, _) => 
  (bif decide ((v5 : Int) < v4) then 
  (ix v3 v5).bind fun x6 => 
  (graph_Name n (x6, ())).bind fun (y7, _) => 
  (bif !y7 then kr (6, ())
  else 
  (bif decide ((v5 : Int) > 0) then 
  (ix v2 (IntKind.wrap .i64 (v5 - 1))).bind fun x8 => 
  (bif !(sless x8 x6) then kr (6, ())
  else rec (v2, v3, v4, IntKind.wrap .i64 (v5 + 1), ()))
  else rec (v2, v3, v4, IntKind.wrap .i64 (v5 + 1), ())))
  else kx (()))

noncomputable def F_graph_Labels_s0 {ρ : Type} (n : Nat) (kr : Int × Unit → Option ρ) : Int → ByteArray → ((List ByteArray) × Unit) → (((List ByteArray) × Unit) → Option ρ) → Option ρ :=
  fun v5 x6 (v2, _) rec =>  
  (graph_Name n (x6, ())).bind fun (y7, _) => 
  (bif !y7 then kr (6, ())
  else 
  (bif decide ((v5 : Int) > 0) then 
  (ix v2 (IntKind.wrap .i64 (v5 - 1))).bind fun x8 => 
  (bif !(sless x8 x6) then kr (6, ())
  else rec (v2, ()))
  else rec (v2, ())))

theorem R_graph_Labels_s0 {ρ : Type} (n : Nat) (kx : Unit → Option ρ) (kr : Int × Unit → Option ρ) (l : List ByteArray) (fuel : Nat) (v2 : List ByteArray) (hl : l.length ≤ 9223372036854775807) (hf : l.length < fuel) :
    iterN (fun rc => graph_Labels_s0 n rc kx kr) fuel (v2, l, (l.length : Int), 0, ()) = foldK (F_graph_Labels_s0 n kr) (fun (v2, _) => kx (())) 0 l (v2, ()) :=
  range_listM l (fun i (v2, _) => (v2, l, (l.length : Int), i, ())) _ _ _ (fun rec i s => rfl) hl fuel (v2, ()) hf

/-- graph.Labels -/
noncomputable def graph_Labels (n : Nat) : (List ByteArray) × Unit → Option (Int × Unit) :=
  fun (a1, _) => 
  (bif decide (((a1.length : Int) : Int) > 4) then some (2, ())
  else 
  iterN (fun rc10 => graph_Labels_s0 n rc10 (fun (_) => some (0, ())) (fun (v9, _) => some (v9, ()))) (n) (a1, a1, (a1.length : Int), 0, ()))

/-- a round of a loop of value.check -/
noncomputable def value_check_s1 {ρ : Type} (self_value_check : Ev.Val × Int × Unit → Option (Int × Unit)) (n : Nat) (rec : Int × (List Ev.Val) × Int × Int × (Ev.Val × Unit) × Unit → Option ρ) (kx : (Ev.Val × Unit) × Unit → Option ρ) (kr : Int × Unit → Option ρ) : Int × (List Ev.Val) × Int × Int × (Ev.Val × Unit) × Unit → Option ρ :=
  fun (v4, v5, v6, v7, o8, _) => 
  (bif decide ((v7 : Int) < v6) then 
  (ix v5 v7).bind fun x9 => 
  (self_value_check ((Ev.Val.mk x9.kind x9.n x9.s x9.l), IntKind.wrap .i64 (v4 + 1), ())).bind fun (y10, _) => 
  (bif (y10 : Int) != 0 then kr (y10, ())
  else rec (v4, v5, v6, IntKind.wrap .i64 (v7 + 1), ((Ev.Val.mk o8.1.kind o8.1.n o8.1.s o8.1.l), ()), ()))
  else kx (((Ev.Val.mk o8.1.kind o8.1.n o8.1.s o8.1.l), ()), ()))

noncomputable def F_value_check_s1 {ρ : Type} (self_value_check : Ev.Val × Int × Unit → Option (Int × Unit)) (n : Nat) (kr : Int × Unit → Option ρ) : Int → Ev.Val → (Int × (Ev.Val × Unit) × Unit) → ((Int × (Ev.Val × Unit) × Unit) → Option ρ) → Option ρ :=
  fun v7 x9 (v4, o8, _) rec =>  
  (self_value_check ((Ev.Val.mk x9.kind x9.n x9.s x9.l), IntKind.wrap .i64 (v4 + 1), ())).bind fun (y10, _) => 
  (bif (y10 : Int) != 0 then kr (y10, ())
  else rec (v4, ((Ev.Val.mk o8.1.kind o8.1.n o8.1.s o8.1.l), ()), ()))

theorem R_value_check_s1 {ρ : Type} (self_value_check : Ev.Val × Int × Unit → Option (Int × Unit)) (n : Nat) (kx : (Ev.Val × Unit) × Unit → Option ρ) (kr : Int × Unit → Option ρ) (l : List Ev.Val) (fuel : Nat) (v4 : Int) (o8 : Ev.Val × Unit) (hl : l.length ≤ 9223372036854775807) (hf : l.length < fuel) :
    iterN (fun rc => value_check_s1 self_value_check n rc kx kr) fuel (v4, l, (l.length : Int), 0, o8, ()) = foldK (F_value_check_s1 self_value_check n kr) (fun (v4, o8, _) => kx (((Ev.Val.mk o8.1.kind o8.1.n o8.1.s o8.1.l), ()), ())) 0 l (v4, o8, ()) :=
  range_listM l (fun i (v4, o8, _) => (v4, l, (l.length : Int), i, o8, ())) _ _ _ (fun rec i s => rfl) hl fuel (v4, o8, ()) hf

/-- value.check -/
noncomputable def value_check_b (self_value_check : Ev.Val × Int × Unit → Option (Int × Unit)) (n : Nat) : Ev.Val × Int × Unit → Option (Int × Unit) :=
  fun (a1, a2, _) => 
  (bif (a1.kind : Int) == 0 then 
  (bif !((((a1.n : Int) == 0) && (seq a1.s (⟨#[]⟩ : ByteArray))) && (((a1.l.length : Int) : Int) == 0)) then some (6, ())
  else some (0, ()))
  else 
  (bif (a1.kind : Int) == 1 then 
  (bif !(((((a1.n : Int) == 0) || ((a1.n : Int) == 1)) && (seq a1.s (⟨#[]⟩ : ByteArray))) && (((a1.l.length : Int) : Int) == 0)) then some (6, ())
  else some (0, ()))
  else 
  (bif (a1.kind : Int) == 2 then 
  (bif !((seq a1.s (⟨#[]⟩ : ByteArray)) && (((a1.l.length : Int) : Int) == 0)) then some (6, ())
  else some (0, ()))
  else 
  (bif (a1.kind : Int) == 3 then 
  (bif decide (((a1.s.size : Int) : Int) > 4000) then some (2, ())
  else 
  (bif (a1.n : Int) == 0 then 
  (validN (a1.s, ())).bind fun (y3, _) => 
  (bif !(y3 && (((a1.l.length : Int) : Int) == 0)) then some (6, ())
  else some (0, ()))
  else some (6, ())))
  else 
  (bif (a1.kind : Int) == 4 then 
  (bif (decide (((a1.l.length : Int) : Int) > 30)) || (decide ((a2 : Int) > 6)) then some (2, ())
  else 
  iterN (fun rc13 => value_check_s1 self_value_check n rc13 (fun (o11, _) => 
  (bif !(((o11.1.n : Int) == 0) && (seq o11.1.s (⟨#[]⟩ : ByteArray))) then some (6, ())
  else some (0, ()))) (fun (v12, _) => some (v12, ()))) (n) (a2, a1.l, (a1.l.length : Int), 0, ((Ev.Val.mk a1.kind a1.n a1.s a1.l), ()), ()))
  else some (6, ()))))))

noncomputable def value_check : Nat → Ev.Val × Int × Unit → Option (Int × Unit)
  | 0, _ => none
  | n + 1, x => value_check_b (value_check n) n x

/-- value.Check -/
noncomputable def value_Check (n : Nat) : Ev.Val × Unit → Option (Int × Unit) :=
  fun (a1, _) => 
  (value_check n ((Ev.Val.mk a1.kind a1.n a1.s a1.l), 1, ())).bind fun (y2, _) => some (y2, ())

/-- a round of a loop of graph.Props -/
noncomputable def graph_Props_s0 {ρ : Type} (n : Nat) (rec : (List Ev.Prp) × (List Ev.Prp) × Int × Int × Unit → Option ρ) (kx : Unit → Option ρ) (kr : Int × Unit → Option ρ) : (List Ev.Prp) × (List Ev.Prp) × Int × Int × Unit → Option ρ :=
  fun (v2, v3, v4, v5, _) => 
  (bif decide ((v5 : Int) < v4) then 
  (ix v3 v5).bind fun x6 => 
  (graph_Name n (x6.name, ())).bind fun (y7, _) => 
  (bif !y7 then kr (6, ())
  else 
  (bif decide ((v5 : Int) > 0) then 
  (ix v2 (IntKind.wrap .i64 (v5 - 1))).bind fun x8 => 
  (bif (!(sless x8.name x6.name)) || ((x6.val.kind : Int) == 0) then kr (6, ())
  else 
  (value_Check n ((Ev.Val.mk x6.val.kind x6.val.n x6.val.s x6.val.l), ())).bind fun (y9, _) => 
  (bif (y9 : Int) != 0 then kr (y9, ())
  else rec (v2, v3, v4, IntKind.wrap .i64 (v5 + 1), ())))
  else 
  (bif (x6.val.kind : Int) == 0 then kr (6, ())
  else 
  (value_Check n ((Ev.Val.mk x6.val.kind x6.val.n x6.val.s x6.val.l), ())).bind fun (y10, _) => 
  (bif (y10 : Int) != 0 then kr (y10, ())
  else rec (v2, v3, v4, IntKind.wrap .i64 (v5 + 1), ())))))
  else kx (()))

noncomputable def F_graph_Props_s0 {ρ : Type} (n : Nat) (kr : Int × Unit → Option ρ) : Int → Ev.Prp → ((List Ev.Prp) × Unit) → (((List Ev.Prp) × Unit) → Option ρ) → Option ρ :=
  fun v5 x6 (v2, _) rec =>  
  (graph_Name n (x6.name, ())).bind fun (y7, _) => 
  (bif !y7 then kr (6, ())
  else 
  (bif decide ((v5 : Int) > 0) then 
  (ix v2 (IntKind.wrap .i64 (v5 - 1))).bind fun x8 => 
  (bif (!(sless x8.name x6.name)) || ((x6.val.kind : Int) == 0) then kr (6, ())
  else 
  (value_Check n ((Ev.Val.mk x6.val.kind x6.val.n x6.val.s x6.val.l), ())).bind fun (y9, _) => 
  (bif (y9 : Int) != 0 then kr (y9, ())
  else rec (v2, ())))
  else 
  (bif (x6.val.kind : Int) == 0 then kr (6, ())
  else 
  (value_Check n ((Ev.Val.mk x6.val.kind x6.val.n x6.val.s x6.val.l), ())).bind fun (y10, _) => 
  (bif (y10 : Int) != 0 then kr (y10, ())
  else rec (v2, ())))))

theorem R_graph_Props_s0 {ρ : Type} (n : Nat) (kx : Unit → Option ρ) (kr : Int × Unit → Option ρ) (l : List Ev.Prp) (fuel : Nat) (v2 : List Ev.Prp) (hl : l.length ≤ 9223372036854775807) (hf : l.length < fuel) :
    iterN (fun rc => graph_Props_s0 n rc kx kr) fuel (v2, l, (l.length : Int), 0, ()) = foldK (F_graph_Props_s0 n kr) (fun (v2, _) => kx (())) 0 l (v2, ()) :=
  range_listM l (fun i (v2, _) => (v2, l, (l.length : Int), i, ())) _ _ _ (fun rec i s => rfl) hl fuel (v2, ()) hf

/-- graph.Props -/
noncomputable def graph_Props (n : Nat) : (List Ev.Prp) × Unit → Option (Int × Unit) :=
  fun (a1, _) => 
  (bif decide (((a1.length : Int) : Int) > 6) then some (2, ())
  else 
  iterN (fun rc12 => graph_Props_s0 n rc12 (fun (_) => some (0, ())) (fun (v11, _) => some (v11, ()))) (n) (a1, a1, (a1.length : Int), 0, ()))

/-- a round of a loop of cmp.Or api.Errno  -/
noncomputable def cmp_Or_api_Errno_s0 {ρ : Type} (n : Nat) (rec : Int × (List Int) × Int × Int × Unit → Option ρ) (kx : Int × Unit → Option ρ) (kr : Int × Unit → Option ρ) : Int × (List Int) × Int × Int × Unit → Option ρ :=
  fun (v2, v3, v4, v5, _) => 
  (bif decide ((v5 : Int) < v4) then 
  (ix v3 v5).bind fun x6 => 
  (bif (x6 : Int) != v2 then kr (x6, ())
  else rec (v2, v3, v4, IntKind.wrap .i64 (v5 + 1), ()))
  else kx (v2, ()))

noncomputable def F_cmp_Or_api_Errno_s0 {ρ : Type} (n : Nat) (kr : Int × Unit → Option ρ) : Int → Int → (Int × Unit) → ((Int × Unit) → Option ρ) → Option ρ :=
  fun v5 x6 (v2, _) rec =>  
  (bif (x6 : Int) != v2 then kr (x6, ())
  else rec (v2, ()))

theorem R_cmp_Or_api_Errno_s0 {ρ : Type} (n : Nat) (kx : Int × Unit → Option ρ) (kr : Int × Unit → Option ρ) (l : List Int) (fuel : Nat) (v2 : Int) (hl : l.length ≤ 9223372036854775807) (hf : l.length < fuel) :
    iterN (fun rc => cmp_Or_api_Errno_s0 n rc kx kr) fuel (v2, l, (l.length : Int), 0, ()) = foldK (F_cmp_Or_api_Errno_s0 n kr) (fun (v2, _) => kx (v2, ())) 0 l (v2, ()) :=
  range_listM l (fun i (v2, _) => (v2, l, (l.length : Int), i, ())) _ _ _ (fun rec i s => rfl) hl fuel (v2, ()) hf

/-- cmp.Or api.Errno  -/
noncomputable def cmp_Or_api_Errno (n : Nat) : (List Int) × Unit → Option (Int × Unit) :=
  fun (a1, _) => 
  iterN (fun rc9 => cmp_Or_api_Errno_s0 n rc9 (fun (v7, _) => some (v7, ())) (fun (v8, _) => some (v8, ()))) (n) (0, a1, (a1.length : Int), 0, ())

/-- cmp.isNaN int  -/
noncomputable def cmp_isNaN_int : Int × Unit → Option (Bool × Unit) :=
  fun (a1, _) => some ((a1 : Int) != a1, ())

/-- cmp.Compare int  -/
noncomputable def cmp_Compare_int : Int × Int × Unit → Option (Int × Unit) :=
  fun (a1, a2, _) => 
  (cmp_isNaN_int (a1, ())).bind fun (y3, _) => 
  (cmp_isNaN_int (a2, ())).bind fun (y4, _) => 
  (bif y3 then 
  (bif y4 then some (0, ())
  else some ((-1), ()))
  else 
  (bif y4 then some (1, ())
  else 
  (bif decide ((a1 : Int) < a2) then some ((-1), ())
  else 
  (bif decide ((a1 : Int) > a2) then some (1, ())
  else some (0, ())))))

/-- graph.Find$1 -/
noncomputable def graph_Find_1 : Ev.Node × Int × Unit → Option (Int × Unit) :=
  fun (a1, a2, _) => 
  (cmp_Compare_int (a1.id, a2, ())).bind fun (y3, _) => some (y3, ())

/-- a round of a loop of slices.BinarySearchFunc   api.Node,api.Node,int  -/
noncomputable def slices_BinarySearchFunc_api_Node_api_Node_int_graph_Find_1_s0 {ρ : Type} (n : Nat) (rec : (List Ev.Node) × Int × Int × Int × Int × Unit → Option ρ) (kx : (List Ev.Node) × Int × Int × Int × Unit → Option ρ) (kr : Unit → Option ρ) : (List Ev.Node) × Int × Int × Int × Int × Unit → Option ρ :=
  fun (v3, v4, v5, v6, v7, _) => 
  (bif decide ((v6 : Int) < v7) then 
  (ix v3 (IntKind.wrap .i64 (bshr .u64 (IntKind.wrap .u64 (IntKind.wrap .i64 (v6 + v7))) 1))).bind fun x8 => 
  (graph_Find_1 ((Ev.Node.mk x8.id x8.labels x8.props), v4, ())).bind fun (y9, _) => 
  (bif decide ((y9 : Int) < 0) then rec (v3, v4, v5, IntKind.wrap .i64 ((IntKind.wrap .i64 (bshr .u64 (IntKind.wrap .u64 (IntKind.wrap .i64 (v6 + v7))) 1)) + 1), v7, ())
  else rec (v3, v4, v5, v6, IntKind.wrap .i64 (bshr .u64 (IntKind.wrap .u64 (IntKind.wrap .i64 (v6 + v7))) 1), ()))
  else kx (v3, v4, v5, v6, ()))

/-- slices.BinarySearchFunc   api.Node,api.Node,int  -/
noncomputable def slices_BinarySearchFunc_api_Node_api_Node_int_graph_Find_1 (n : Nat) : (List Ev.Node) × Int × Unit → Option (Int × Bool × Unit) :=
  fun (a1, a2, _) => 
  iterN (fun rc16 => slices_BinarySearchFunc_api_Node_api_Node_int_graph_Find_1_s0 n rc16 (fun (v10, v11, v12, v13, _) => 
  (bif decide ((v13 : Int) < v12) then 
  (ix v10 v13).bind fun x14 => 
  (graph_Find_1 ((Ev.Node.mk x14.id x14.labels x14.props), v11, ())).bind fun (y15, _) => some (v13, (y15 : Int) == 0, ())
  else some (v13, false, ()))) (fun (_) => none)) (n) (a1, a2, (a1.length : Int), 0, (a1.length : Int), ())

/-- graph.Find -/
noncomputable def graph_Find (n : Nat) : Ev.Graph × Int × Unit → Option (Int × Unit) :=
  fun (a1, a2, _) => 
  (slices_BinarySearchFunc_api_Node_api_Node_int_graph_Find_1 n (a1.nodes, a2, ())).bind fun (y3, y4, _) => 
  (bif !y4 then some ((-1), ())
  else some (y3, ()))

/-- a round of a loop of graph.Check -/
noncomputable def graph_Check_s0 {ρ : Type} (n : Nat) (rec : Int × (List Ev.Node) × Int × Int × (Ev.Graph × Unit) × Unit → Option ρ) (kx : Int × (Ev.Graph × Unit) × Unit → Option ρ) (kr : Int × Unit → Option ρ) : Int × (List Ev.Node) × Int × Int × (Ev.Graph × Unit) × Unit → Option ρ :=
  fun (v2, v3, v4, v5, o6, _) => 
  (bif decide ((v5 : Int) < v4) then 
  (ix v3 v5).bind fun x7 => 
  (bif decide ((x7.id : Int) ≤ v2) then kr (6, ())
  else 
  (graph_Labels n (x7.labels, ())).bind fun (y8, _) => 
  (graph_Props n (x7.props, ())).bind fun (y9, _) => 
  (cmp_Or_api_Errno n (([y8, y9] : List Int), ())).bind fun (y10, _) => 
  (bif (y10 : Int) != 0 then kr (y10, ())
  else rec (x7.id, v3, v4, IntKind.wrap .i64 (v5 + 1), ((Ev.Graph.mk o6.1.nodes o6.1.edges o6.1.next), ()), ())))
  else kx (v2, ((Ev.Graph.mk o6.1.nodes o6.1.edges o6.1.next), ()), ()))

/-- a round of a loop of graph.Check -/
noncomputable def graph_Check_s2 {ρ : Type} (n : Nat) (rec : Int × Int × (List Ev.Edg) × Int × Int × (Ev.Graph × Unit) × Unit → Option ρ) (kx : Int × Int × (Ev.Graph × Unit) × Unit → Option ρ) (kr : Int × Unit → Option ρ) : Int × Int × (List Ev.Edg) × Int × Int × (Ev.Graph × Unit) × Unit → Option ρ :=
  fun (v14, v15, v16, v17, v18, o19, _) => 
  (bif decide ((v18 : Int) < v17) then 
  (ix v16 v18).bind fun x20 => 
  (bif decide ((x20.id : Int) ≤ v14) then kr (6, ())
  else 
  (graph_Find n ((Ev.Graph.mk o19.1.nodes o19.1.edges o19.1.next), x20.id, ())).bind fun (y21, _) => 
  (bif decide ((y21 : Int) ≥ 0) then kr (6, ())
  else 
  (graph_Name n (x20.type, ())).bind fun (y22, _) => 
  (bif !y22 then kr (6, ())
  else 
  (graph_Find n ((Ev.Graph.mk o19.1.nodes o19.1.edges o19.1.next), x20.src, ())).bind fun (y23, _) => 
  (bif decide ((y23 : Int) < 0) then kr (5, ())
  else 
  (graph_Find n ((Ev.Graph.mk o19.1.nodes o19.1.edges o19.1.next), x20.dst, ())).bind fun (y24, _) => 
  (bif decide ((y24 : Int) < 0) then kr (5, ())
  else 
  (graph_Props n (x20.props, ())).bind fun (y25, _) => 
  (bif (y25 : Int) != 0 then kr (y25, ())
  else rec (x20.id, v15, v16, v17, IntKind.wrap .i64 (v18 + 1), ((Ev.Graph.mk o19.1.nodes o19.1.edges o19.1.next), ()), ())))))))
  else kx (v14, v15, ((Ev.Graph.mk o19.1.nodes o19.1.edges o19.1.next), ()), ()))

noncomputable def F_graph_Check_s0 {ρ : Type} (n : Nat) (kr : Int × Unit → Option ρ) : Int → Ev.Node → (Int × (Ev.Graph × Unit) × Unit) → ((Int × (Ev.Graph × Unit) × Unit) → Option ρ) → Option ρ :=
  fun v5 x7 (v2, o6, _) rec =>  
  (bif decide ((x7.id : Int) ≤ v2) then kr (6, ())
  else 
  (graph_Labels n (x7.labels, ())).bind fun (y8, _) => 
  (graph_Props n (x7.props, ())).bind fun (y9, _) => 
  (cmp_Or_api_Errno n (([y8, y9] : List Int), ())).bind fun (y10, _) => 
  (bif (y10 : Int) != 0 then kr (y10, ())
  else rec (x7.id, ((Ev.Graph.mk o6.1.nodes o6.1.edges o6.1.next), ()), ())))

theorem R_graph_Check_s0 {ρ : Type} (n : Nat) (kx : Int × (Ev.Graph × Unit) × Unit → Option ρ) (kr : Int × Unit → Option ρ) (l : List Ev.Node) (fuel : Nat) (v2 : Int) (o6 : Ev.Graph × Unit) (hl : l.length ≤ 9223372036854775807) (hf : l.length < fuel) :
    iterN (fun rc => graph_Check_s0 n rc kx kr) fuel (v2, l, (l.length : Int), 0, o6, ()) = foldK (F_graph_Check_s0 n kr) (fun (v2, o6, _) => kx (v2, ((Ev.Graph.mk o6.1.nodes o6.1.edges o6.1.next), ()), ())) 0 l (v2, o6, ()) :=
  range_listM l (fun i (v2, o6, _) => (v2, l, (l.length : Int), i, o6, ())) _ _ _ (fun rec i s => rfl) hl fuel (v2, o6, ()) hf

noncomputable def F_graph_Check_s2 {ρ : Type} (n : Nat) (kr : Int × Unit → Option ρ) : Int → Ev.Edg → (Int × Int × (Ev.Graph × Unit) × Unit) → ((Int × Int × (Ev.Graph × Unit) × Unit) → Option ρ) → Option ρ :=
  fun v18 x20 (v14, v15, o19, _) rec =>  
  (bif decide ((x20.id : Int) ≤ v14) then kr (6, ())
  else 
  (graph_Find n ((Ev.Graph.mk o19.1.nodes o19.1.edges o19.1.next), x20.id, ())).bind fun (y21, _) => 
  (bif decide ((y21 : Int) ≥ 0) then kr (6, ())
  else 
  (graph_Name n (x20.type, ())).bind fun (y22, _) => 
  (bif !y22 then kr (6, ())
  else 
  (graph_Find n ((Ev.Graph.mk o19.1.nodes o19.1.edges o19.1.next), x20.src, ())).bind fun (y23, _) => 
  (bif decide ((y23 : Int) < 0) then kr (5, ())
  else 
  (graph_Find n ((Ev.Graph.mk o19.1.nodes o19.1.edges o19.1.next), x20.dst, ())).bind fun (y24, _) => 
  (bif decide ((y24 : Int) < 0) then kr (5, ())
  else 
  (graph_Props n (x20.props, ())).bind fun (y25, _) => 
  (bif (y25 : Int) != 0 then kr (y25, ())
  else rec (x20.id, v15, ((Ev.Graph.mk o19.1.nodes o19.1.edges o19.1.next), ()), ())))))))

theorem R_graph_Check_s2 {ρ : Type} (n : Nat) (kx : Int × Int × (Ev.Graph × Unit) × Unit → Option ρ) (kr : Int × Unit → Option ρ) (l : List Ev.Edg) (fuel : Nat) (v14 : Int) (v15 : Int) (o19 : Ev.Graph × Unit) (hl : l.length ≤ 9223372036854775807) (hf : l.length < fuel) :
    iterN (fun rc => graph_Check_s2 n rc kx kr) fuel (v14, v15, l, (l.length : Int), 0, o19, ()) = foldK (F_graph_Check_s2 n kr) (fun (v14, v15, o19, _) => kx (v14, v15, ((Ev.Graph.mk o19.1.nodes o19.1.edges o19.1.next), ()), ())) 0 l (v14, v15, o19, ()) :=
  range_listM l (fun i (v14, v15, o19, _) => (v14, v15, l, (l.length : Int), i, o19, ())) _ _ _ (fun rec i s => rfl) hl fuel (v14, v15, o19, ()) hf

/-- graph.Check -/
noncomputable def graph_Check (n : Nat) : Ev.Graph × Unit → Option (Int × Unit) :=
  fun (a1, _) => 
  (bif (decide (((a1.nodes.length : Int) : Int) > 40)) || (decide (((a1.edges.length : Int) : Int) > 60)) then some (2, ())
  else 
  iterN (fun rc31 => graph_Check_s0 n rc31 (fun (v11, o12, _) => 
  iterN (fun rc30 => graph_Check_s2 n rc30 (fun (v26, v27, o28, _) => 
  (bif (decide ((o28.1.next : Int) ≤ (if v26 > v27 then v26 else v27))) || (decide ((o28.1.next : Int) > 1099511627776)) then some (9, ())
  else some (0, ()))) (fun (v29, _) => some (v29, ()))) (n) (0, v11, o12.1.edges, (o12.1.edges.length : Int), 0, ((Ev.Graph.mk o12.1.nodes o12.1.edges o12.1.next), ()), ())) (fun (v13, _) => some (v13, ()))) (n) (0, a1.nodes, (a1.nodes.length : Int), 0, ((Ev.Graph.mk a1.nodes a1.edges a1.next), ()), ()))

/-- a round of a loop of slices.Index   string,string  -/
noncomputable def slices_Index_string_string_s0 {ρ : Type} (n : Nat) (rec : (List ByteArray) × ByteArray × Int × Int × Unit → Option ρ) (kx : Unit → Option ρ) (kr : Int × Unit → Option ρ) : (List ByteArray) × ByteArray × Int × Int × Unit → Option ρ :=
  fun (v3, v4, v5, v6, _) => 
  (bif decide ((v6 : Int) < v5) then 
  (ix v3 v6).bind fun x7 => 
  (bif seq v4 x7 then kr (v6, ())
  else rec (v3, v4, v5, IntKind.wrap .i64 (v6 + 1), ()))
  else kx (()))

noncomputable def F_slices_Index_string_string_s0 {ρ : Type} (n : Nat) (kr : Int × Unit → Option ρ) : Int → ByteArray → (ByteArray × Unit) → ((ByteArray × Unit) → Option ρ) → Option ρ :=
  fun v6 x7 (v4, _) rec =>  
  (bif seq v4 x7 then kr (v6, ())
  else rec (v4, ()))

theorem R_slices_Index_string_string_s0 {ρ : Type} (n : Nat) (kx : Unit → Option ρ) (kr : Int × Unit → Option ρ) (l : List ByteArray) (fuel : Nat) (v4 : ByteArray) (hl : l.length ≤ 9223372036854775807) (hf : l.length < fuel) :
    iterN (fun rc => slices_Index_string_string_s0 n rc kx kr) fuel (l, v4, (l.length : Int), 0, ()) = foldK (F_slices_Index_string_string_s0 n kr) (fun (v4, _) => kx (())) 0 l (v4, ()) :=
  range_listM l (fun i (v4, _) => (l, v4, (l.length : Int), i, ())) _ _ _ (fun rec i s => rfl) hl fuel (v4, ()) hf

/-- slices.Index   string,string  -/
noncomputable def slices_Index_string_string (n : Nat) : (List ByteArray) × ByteArray × Unit → Option (Int × Unit) :=
  fun (a1, a2, _) => 
  iterN (fun rc9 => slices_Index_string_string_s0 n rc9 (fun (_) => some ((-1), ())) (fun (v8, _) => some (v8, ()))) (n) (a1, a2, (a1.length : Int), 0, ())

/-- slices.Contains   string,string  -/
noncomputable def slices_Contains_string_string (n : Nat) : (List ByteArray) × ByteArray × Unit → Option (Bool × Unit) :=
  fun (a1, a2, _) => 
  (slices_Index_string_string n (a1, a2, ())).bind fun (y3, _) => some (decide ((y3 : Int) ≥ 0), ())

/-- a round of a loop of graph.Labelled -/
noncomputable def graph_Labelled_s0 {ρ : Type} (n : Nat) (rec : ByteArray × (List Ev.Node) × Int × Int × (List Int) × Unit → Option ρ) (kx : (List Int) × Unit → Option ρ) (kr : Unit → Option ρ) : ByteArray × (List Ev.Node) × Int × Int × (List Int) × Unit → Option ρ :=
  fun (v4, v5, v6, v7, o8, _) => 
  (bif decide ((v7 : Int) < v6) then 
  (ix v5 v7).bind fun x9 => 
  (bif seq v4 (⟨#[]⟩ : ByteArray) then 
  ck (room (o8 ++ ([x9.id] : List Int)).length 8) (rec (v4, v5, v6, IntKind.wrap .i64 (v7 + 1), o8 ++ ([x9.id] : List Int), ()))
  else 
  (slices_Contains_string_string n (x9.labels, v4, ())).bind fun (y10, _) => 
  (bif y10 then 
  ck (room (o8 ++ ([x9.id] : List Int)).length 8) (rec (v4, v5, v6, IntKind.wrap .i64 (v7 + 1), o8 ++ ([x9.id] : List Int), ()))
  else rec (v4, v5, v6, IntKind.wrap .i64 (v7 + 1), o8, ())))
  else kx (o8, ()))

noncomputable def F_graph_Labelled_s0 {ρ : Type} (n : Nat) (kr : Unit → Option ρ) : Int → Ev.Node → (ByteArray × (List Int) × Unit) → ((ByteArray × (List Int) × Unit) → Option ρ) → Option ρ :=
  fun v7 x9 (v4, o8, _) rec =>  
  (bif seq v4 (⟨#[]⟩ : ByteArray) then 
  ck (room (o8 ++ ([x9.id] : List Int)).length 8) (rec (v4, o8 ++ ([x9.id] : List Int), ()))
  else 
  (slices_Contains_string_string n (x9.labels, v4, ())).bind fun (y10, _) => 
  (bif y10 then 
  ck (room (o8 ++ ([x9.id] : List Int)).length 8) (rec (v4, o8 ++ ([x9.id] : List Int), ()))
  else rec (v4, o8, ())))

theorem R_graph_Labelled_s0 {ρ : Type} (n : Nat) (kx : (List Int) × Unit → Option ρ) (kr : Unit → Option ρ) (l : List Ev.Node) (fuel : Nat) (v4 : ByteArray) (o8 : List Int) (hl : l.length ≤ 9223372036854775807) (hf : l.length < fuel) :
    iterN (fun rc => graph_Labelled_s0 n rc kx kr) fuel (v4, l, (l.length : Int), 0, o8, ()) = foldK (F_graph_Labelled_s0 n kr) (fun (v4, o8, _) => kx (o8, ())) 0 l (v4, o8, ()) :=
  range_listM l (fun i (v4, o8, _) => (v4, l, (l.length : Int), i, o8, ())) _ _ _ (fun rec i s => rfl) hl fuel (v4, o8, ()) hf

/-- graph.Labelled -/
noncomputable def graph_Labelled (n : Nat) : Ev.Graph × ByteArray × Unit → Option ((List Int) × Int × Unit) :=
  fun (a1, a2, _) => 
  (graph_Check n ((Ev.Graph.mk a1.nodes a1.edges a1.next), ())).bind fun (y3, _) => 
  (bif (y3 : Int) != 0 then some (([] : List Int), y3, ())
  else 
  iterN (fun rc12 => graph_Labelled_s0 n rc12 (fun (o11, _) => some (o11, 0, ())) (fun (_) => none)) (n) (a2, a1.nodes, (a1.nodes.length : Int), 0, ([] : List Int), ()))

/-- espalierlaw.num -/
noncomputable def espalierlaw_num : Int × Unit → Option (Ev.Val × Unit) :=
  fun (a1, _) => some ((Ev.Val.mk 2 a1 (⟨#[]⟩ : ByteArray) ([] : List Ev.Val)), ())

/-- espalierlaw.knows -/
noncomputable def espalierlaw_knows : Unit → Option (Ev.Graph × Unit) :=
  fun (_) => 
  (espalierlaw_num (5, ())).bind fun (y1, _) => some ((Ev.Graph.mk ([(Ev.Node.mk 1 ([(⟨#[65]⟩ : ByteArray)] : List ByteArray) ([(Ev.Prp.mk (⟨#[110]⟩ : ByteArray) (Ev.Val.mk y1.kind y1.n y1.s y1.l))] : List Ev.Prp)), (Ev.Node.mk 2 ([] : List ByteArray) ([] : List Ev.Prp))] : List Ev.Node) ([(Ev.Edg.mk 3 1 2 (⟨#[75]⟩ : ByteArray) ([] : List Ev.Prp))] : List Ev.Edg) 4), ())

/-- a round of a loop of value.Copy -/
noncomputable def value_Copy_s0 {ρ : Type} (self_value_Copy : Ev.Val × Unit → Option (Ev.Val × Unit)) (n : Nat) (rec : (List Ev.Val) × Int × Int × (Int × Int × ByteArray × Unit) × (Ev.Val × Unit) × (List Ev.Val) × Unit → Option ρ) (kx : (Int × Int × ByteArray × Unit) × (Ev.Val × Unit) × (List Ev.Val) × Unit → Option ρ) (kr : Unit → Option ρ) : (List Ev.Val) × Int × Int × (Int × Int × ByteArray × Unit) × (Ev.Val × Unit) × (List Ev.Val) × Unit → Option ρ :=
  fun (v2, v3, v4, o5, o6, o7, _) => 
  (bif decide ((v4 : Int) < v3) then 
  (ix v2 v4).bind fun x8 => 
  (self_value_Copy ((Ev.Val.mk x8.kind x8.n x8.s x8.l), ())).bind fun (y10, _) => 
  ck (room (o7 ++ ([(Ev.Val.mk y10.kind y10.n y10.s y10.l)] : List Ev.Val)).length 56) (rec (v2, v3, IntKind.wrap .i64 (v4 + 1), (o5.1, o5.2.1, o5.2.2.1, ()), ((Ev.Val.mk o6.1.kind o6.1.n o6.1.s o6.1.l), ()), o7 ++ ([(Ev.Val.mk y10.kind y10.n y10.s y10.l)] : List Ev.Val), ()))
  else kx ((o5.1, o5.2.1, o5.2.2.1, ()), ((Ev.Val.mk o6.1.kind o6.1.n o6.1.s o6.1.l), ()), o7, ()))

noncomputable def F_value_Copy_s0 {ρ : Type} (self_value_Copy : Ev.Val × Unit → Option (Ev.Val × Unit)) (n : Nat) (kr : Unit → Option ρ) : Int → Ev.Val → ((Int × Int × ByteArray × Unit) × (Ev.Val × Unit) × (List Ev.Val) × Unit) → (((Int × Int × ByteArray × Unit) × (Ev.Val × Unit) × (List Ev.Val) × Unit) → Option ρ) → Option ρ :=
  fun v4 x8 (o5, o6, o7, _) rec =>  
  (self_value_Copy ((Ev.Val.mk x8.kind x8.n x8.s x8.l), ())).bind fun (y10, _) => 
  ck (room (o7 ++ ([(Ev.Val.mk y10.kind y10.n y10.s y10.l)] : List Ev.Val)).length 56) (rec ((o5.1, o5.2.1, o5.2.2.1, ()), ((Ev.Val.mk o6.1.kind o6.1.n o6.1.s o6.1.l), ()), o7 ++ ([(Ev.Val.mk y10.kind y10.n y10.s y10.l)] : List Ev.Val), ()))

theorem R_value_Copy_s0 {ρ : Type} (self_value_Copy : Ev.Val × Unit → Option (Ev.Val × Unit)) (n : Nat) (kx : (Int × Int × ByteArray × Unit) × (Ev.Val × Unit) × (List Ev.Val) × Unit → Option ρ) (kr : Unit → Option ρ) (l : List Ev.Val) (fuel : Nat) (o5 : Int × Int × ByteArray × Unit) (o6 : Ev.Val × Unit) (o7 : List Ev.Val) (hl : l.length ≤ 9223372036854775807) (hf : l.length < fuel) :
    iterN (fun rc => value_Copy_s0 self_value_Copy n rc kx kr) fuel (l, (l.length : Int), 0, o5, o6, o7, ()) = foldK (F_value_Copy_s0 self_value_Copy n kr) (fun (o5, o6, o7, _) => kx ((o5.1, o5.2.1, o5.2.2.1, ()), ((Ev.Val.mk o6.1.kind o6.1.n o6.1.s o6.1.l), ()), o7, ())) 0 l (o5, o6, o7, ()) :=
  range_listM l (fun i (o5, o6, o7, _) => (l, (l.length : Int), i, o5, o6, o7, ())) _ _ _ (fun rec i s => rfl) hl fuel (o5, o6, o7, ()) hf

/-- value.Copy -/
noncomputable def value_Copy_b (self_value_Copy : Ev.Val × Unit → Option (Ev.Val × Unit)) (n : Nat) : Ev.Val × Unit → Option (Ev.Val × Unit) :=
  fun (a1, _) => 
  iterN (fun rc14 => value_Copy_s0 self_value_Copy n rc14 (fun (o11, o12, o13, _) => some ((Ev.Val.mk o11.1 o11.2.1 o11.2.2.1 o13), ())) (fun (_) => none)) (n) (a1.l, (a1.l.length : Int), 0, (a1.kind, a1.n, a1.s, ()), ((Ev.Val.mk 0 0 (⟨#[]⟩ : ByteArray) ([] : List Ev.Val)), ()), ([] : List Ev.Val), ())

noncomputable def value_Copy : Nat → Ev.Val × Unit → Option (Ev.Val × Unit)
  | 0, _ => none
  | n + 1, x => value_Copy_b (value_Copy n) n x

/-- a round of a loop of graph.Get -/
noncomputable def graph_Get_s0 {ρ : Type} (n : Nat) (rec : ByteArray × (List Ev.Prp) × Int × Int × (Ev.Val × Unit) × Unit → Option ρ) (kx : (Ev.Val × Unit) × Unit → Option ρ) (kr : (Ev.Val × Unit) × Unit → Option ρ) : ByteArray × (List Ev.Prp) × Int × Int × (Ev.Val × Unit) × Unit → Option ρ :=
  fun (v3, v4, v5, v6, o7, _) => 
  (bif decide ((v6 : Int) < v5) then 
  (ix v4 v6).bind fun x8 => 
  (bif seq x8.name v3 then 
  (value_Copy n ((Ev.Val.mk x8.val.kind x8.val.n x8.val.s x8.val.l), ())).bind fun (y9, _) => kr (((Ev.Val.mk y9.kind y9.n y9.s y9.l), ()), ())
  else rec (v3, v4, v5, IntKind.wrap .i64 (v6 + 1), ((Ev.Val.mk o7.1.kind o7.1.n o7.1.s o7.1.l), ()), ()))
  else kx (((Ev.Val.mk o7.1.kind o7.1.n o7.1.s o7.1.l), ()), ()))

noncomputable def F_graph_Get_s0 {ρ : Type} (n : Nat) (kr : (Ev.Val × Unit) × Unit → Option ρ) : Int → Ev.Prp → (ByteArray × (Ev.Val × Unit) × Unit) → ((ByteArray × (Ev.Val × Unit) × Unit) → Option ρ) → Option ρ :=
  fun v6 x8 (v3, o7, _) rec =>  
  (bif seq x8.name v3 then 
  (value_Copy n ((Ev.Val.mk x8.val.kind x8.val.n x8.val.s x8.val.l), ())).bind fun (y9, _) => kr (((Ev.Val.mk y9.kind y9.n y9.s y9.l), ()), ())
  else rec (v3, ((Ev.Val.mk o7.1.kind o7.1.n o7.1.s o7.1.l), ()), ()))

theorem R_graph_Get_s0 {ρ : Type} (n : Nat) (kx : (Ev.Val × Unit) × Unit → Option ρ) (kr : (Ev.Val × Unit) × Unit → Option ρ) (l : List Ev.Prp) (fuel : Nat) (v3 : ByteArray) (o7 : Ev.Val × Unit) (hl : l.length ≤ 9223372036854775807) (hf : l.length < fuel) :
    iterN (fun rc => graph_Get_s0 n rc kx kr) fuel (v3, l, (l.length : Int), 0, o7, ()) = foldK (F_graph_Get_s0 n kr) (fun (v3, o7, _) => kx (((Ev.Val.mk o7.1.kind o7.1.n o7.1.s o7.1.l), ()), ())) 0 l (v3, o7, ()) :=
  range_listM l (fun i (v3, o7, _) => (v3, l, (l.length : Int), i, o7, ())) _ _ _ (fun rec i s => rfl) hl fuel (v3, o7, ()) hf

/-- graph.Get -/
noncomputable def graph_Get (n : Nat) : (List Ev.Prp) × ByteArray × Unit → Option (Ev.Val × Unit) :=
  fun (a1, a2, _) => 
  iterN (fun rc12 => graph_Get_s0 n rc12 (fun (o10, _) => some ((Ev.Val.mk 0 0 (⟨#[]⟩ : ByteArray) ([] : List Ev.Val)), ())) (fun (o11, _) => some ((Ev.Val.mk o11.1.kind o11.1.n o11.1.s o11.1.l), ()))) (n) (a2, a1, (a1.length : Int), 0, ((Ev.Val.mk 0 0 (⟨#[]⟩ : ByteArray) ([] : List Ev.Val)), ()), ())

/-- graph.FindEdge$1 -/
noncomputable def graph_FindEdge_1 : Ev.Edg × Int × Unit → Option (Int × Unit) :=
  fun (a1, a2, _) => 
  (cmp_Compare_int (a1.id, a2, ())).bind fun (y3, _) => some (y3, ())

/-- a round of a loop of slices.BinarySearchFunc   api.Edge,api.Edge,int  -/
noncomputable def slices_BinarySearchFunc_api_Edge_api_Edge_int_graph_FindEdge_1_s0 {ρ : Type} (n : Nat) (rec : (List Ev.Edg) × Int × Int × Int × Int × Unit → Option ρ) (kx : (List Ev.Edg) × Int × Int × Int × Unit → Option ρ) (kr : Unit → Option ρ) : (List Ev.Edg) × Int × Int × Int × Int × Unit → Option ρ :=
  fun (v3, v4, v5, v6, v7, _) => 
  (bif decide ((v6 : Int) < v7) then 
  (ix v3 (IntKind.wrap .i64 (bshr .u64 (IntKind.wrap .u64 (IntKind.wrap .i64 (v6 + v7))) 1))).bind fun x8 => 
  (graph_FindEdge_1 ((Ev.Edg.mk x8.id x8.src x8.dst x8.type x8.props), v4, ())).bind fun (y9, _) => 
  (bif decide ((y9 : Int) < 0) then rec (v3, v4, v5, IntKind.wrap .i64 ((IntKind.wrap .i64 (bshr .u64 (IntKind.wrap .u64 (IntKind.wrap .i64 (v6 + v7))) 1)) + 1), v7, ())
  else rec (v3, v4, v5, v6, IntKind.wrap .i64 (bshr .u64 (IntKind.wrap .u64 (IntKind.wrap .i64 (v6 + v7))) 1), ()))
  else kx (v3, v4, v5, v6, ()))

/-- slices.BinarySearchFunc   api.Edge,api.Edge,int  -/
noncomputable def slices_BinarySearchFunc_api_Edge_api_Edge_int_graph_FindEdge_1 (n : Nat) : (List Ev.Edg) × Int × Unit → Option (Int × Bool × Unit) :=
  fun (a1, a2, _) => 
  iterN (fun rc16 => slices_BinarySearchFunc_api_Edge_api_Edge_int_graph_FindEdge_1_s0 n rc16 (fun (v10, v11, v12, v13, _) => 
  (bif decide ((v13 : Int) < v12) then 
  (ix v10 v13).bind fun x14 => 
  (graph_FindEdge_1 ((Ev.Edg.mk x14.id x14.src x14.dst x14.type x14.props), v11, ())).bind fun (y15, _) => some (v13, (y15 : Int) == 0, ())
  else some (v13, false, ()))) (fun (_) => none)) (n) (a1, a2, (a1.length : Int), 0, (a1.length : Int), ())

/-- graph.FindEdge -/
noncomputable def graph_FindEdge (n : Nat) : Ev.Graph × Int × Unit → Option (Int × Unit) :=
  fun (a1, a2, _) => 
  (slices_BinarySearchFunc_api_Edge_api_Edge_int_graph_FindEdge_1 n (a1.edges, a2, ())).bind fun (y3, y4, _) => 
  (bif !y4 then some ((-1), ())
  else some (y3, ()))

/-- graph.Prop -/
noncomputable def graph_Prop (n : Nat) : Ev.Graph × Int × ByteArray × Unit → Option (Ev.Val × Int × Unit) :=
  fun (a1, a2, a3, _) => 
  (graph_Check n ((Ev.Graph.mk a1.nodes a1.edges a1.next), ())).bind fun (y4, _) => 
  (bif (y4 : Int) != 0 then some ((Ev.Val.mk 0 0 (⟨#[]⟩ : ByteArray) ([] : List Ev.Val)), y4, ())
  else 
  (graph_Find n ((Ev.Graph.mk a1.nodes a1.edges a1.next), a2, ())).bind fun (y5, _) => 
  (bif decide ((y5 : Int) ≥ 0) then 
  (ix a1.nodes y5).bind fun x6 => 
  (graph_Get n (x6.props, a3, ())).bind fun (y7, _) => some ((Ev.Val.mk y7.kind y7.n y7.s y7.l), 0, ())
  else 
  (graph_FindEdge n ((Ev.Graph.mk a1.nodes a1.edges a1.next), a2, ())).bind fun (y8, _) => 
  (bif decide ((y8 : Int) ≥ 0) then 
  (ix a1.edges y8).bind fun x9 => 
  (graph_Get n (x9.props, a3, ())).bind fun (y10, _) => some ((Ev.Val.mk y10.kind y10.n y10.s y10.l), 0, ())
  else some ((Ev.Val.mk 0 0 (⟨#[]⟩ : ByteArray) ([] : List Ev.Val)), 5, ()))))

/-- a round of a loop of graph.Around -/
noncomputable def graph_Around_s0 {ρ : Type} (n : Nat) (rec : Int × ByteArray × Bool × (List Ev.Edg) × Int × Int × (List Int) × Unit → Option ρ) (kx : (List Int) × Unit → Option ρ) (kr : Unit → Option ρ) : Int × ByteArray × Bool × (List Ev.Edg) × Int × Int × (List Int) × Unit → Option ρ :=
  fun (v7, v8, v9, v10, v11, v12, o13, _) => 
  (bif decide ((v12 : Int) < v11) then 
  (ix v10 v12).bind fun x14 => 
  (bif ((seq v8 (⟨#[]⟩ : ByteArray)) || (seq x14.type v8)) && ((v9 && ((x14.dst : Int) == v7)) || ((!v9) && ((x14.src : Int) == v7))) then 
  ck (room (o13 ++ ([x14.id] : List Int)).length 8) (rec (v7, v8, v9, v10, v11, IntKind.wrap .i64 (v12 + 1), o13 ++ ([x14.id] : List Int), ()))
  else rec (v7, v8, v9, v10, v11, IntKind.wrap .i64 (v12 + 1), o13, ()))
  else kx (o13, ()))

noncomputable def F_graph_Around_s0 {ρ : Type} (n : Nat) (kr : Unit → Option ρ) : Int → Ev.Edg → (Int × ByteArray × Bool × (List Int) × Unit) → ((Int × ByteArray × Bool × (List Int) × Unit) → Option ρ) → Option ρ :=
  fun v12 x14 (v7, v8, v9, o13, _) rec =>  
  (bif ((seq v8 (⟨#[]⟩ : ByteArray)) || (seq x14.type v8)) && ((v9 && ((x14.dst : Int) == v7)) || ((!v9) && ((x14.src : Int) == v7))) then 
  ck (room (o13 ++ ([x14.id] : List Int)).length 8) (rec (v7, v8, v9, o13 ++ ([x14.id] : List Int), ()))
  else rec (v7, v8, v9, o13, ()))

theorem R_graph_Around_s0 {ρ : Type} (n : Nat) (kx : (List Int) × Unit → Option ρ) (kr : Unit → Option ρ) (l : List Ev.Edg) (fuel : Nat) (v7 : Int) (v8 : ByteArray) (v9 : Bool) (o13 : List Int) (hl : l.length ≤ 9223372036854775807) (hf : l.length < fuel) :
    iterN (fun rc => graph_Around_s0 n rc kx kr) fuel (v7, v8, v9, l, (l.length : Int), 0, o13, ()) = foldK (F_graph_Around_s0 n kr) (fun (v7, v8, v9, o13, _) => kx (o13, ())) 0 l (v7, v8, v9, o13, ()) :=
  range_listM l (fun i (v7, v8, v9, o13, _) => (v7, v8, v9, l, (l.length : Int), i, o13, ())) _ _ _ (fun rec i s => rfl) hl fuel (v7, v8, v9, o13, ()) hf

/-- graph.Around -/
noncomputable def graph_Around (n : Nat) : Ev.Graph × Int × ByteArray × Bool × Unit → Option ((List Int) × Int × Unit) :=
  fun (a1, a2, a3, a4, _) => 
  (graph_Check n ((Ev.Graph.mk a1.nodes a1.edges a1.next), ())).bind fun (y5, _) => 
  (bif (y5 : Int) != 0 then some (([] : List Int), y5, ())
  else 
  (graph_Find n ((Ev.Graph.mk a1.nodes a1.edges a1.next), a2, ())).bind fun (y6, _) => 
  (bif decide ((y6 : Int) < 0) then some (([] : List Int), 5, ())
  else 
  iterN (fun rc16 => graph_Around_s0 n rc16 (fun (o15, _) => some (o15, 0, ())) (fun (_) => none)) (n) (a2, a3, a4, a1.edges, (a1.edges.length : Int), 0, ([] : List Int), ())))

/-- bytes.Compare -/
noncomputable def bytes_Compare : (List Int) × (List Int) × Unit → Option (Int × Unit) :=
  fun (a1, a2, _) => 
  (cmpN (a1, a2, ())).bind fun (y3, _) => some (y3, ())

/-- a round of a loop of espalierref.OrderOf -/
noncomputable def espalierref_OrderOf_s1 {ρ : Type} (self_espalierref_OrderOf : Ev.Val × Ev.Val × Unit → Option (Int × Unit)) (n : Nat) (rec : Int × (Ev.Val × Unit) × (Ev.Val × Unit) × Unit → Option ρ) (kx : (Ev.Val × Unit) × (Ev.Val × Unit) × Unit → Option ρ) (kr : Int × Unit → Option ρ) : Int × (Ev.Val × Unit) × (Ev.Val × Unit) × Unit → Option ρ :=
  fun (v4, o5, o6, _) => 
  (bif (decide ((v4 : Int) < (o5.1.l.length : Int))) && (decide ((v4 : Int) < (o6.1.l.length : Int))) then 
  (ix o5.1.l v4).bind fun x9 => 
  (ix o6.1.l v4).bind fun x10 => 
  (self_espalierref_OrderOf ((Ev.Val.mk x9.kind x9.n x9.s x9.l), (Ev.Val.mk x10.kind x10.n x10.s x10.l), ())).bind fun (y11, _) => 
  (bif (y11 : Int) != 0 then kr (y11, ())
  else rec (IntKind.wrap .i64 (v4 + 1), ((Ev.Val.mk o5.1.kind o5.1.n o5.1.s o5.1.l), ()), ((Ev.Val.mk o6.1.kind o6.1.n o6.1.s o6.1.l), ()), ()))
  else kx (((Ev.Val.mk o5.1.kind o5.1.n o5.1.s o5.1.l), ()), ((Ev.Val.mk o6.1.kind o6.1.n o6.1.s o6.1.l), ()), ()))

/-- espalierref.OrderOf -/
noncomputable def espalierref_OrderOf_b (self_espalierref_OrderOf : Ev.Val × Ev.Val × Unit → Option (Int × Unit)) (n : Nat) : Ev.Val × Ev.Val × Unit → Option (Int × Unit) :=
  fun (a1, a2, _) => 
  (bif decide ((a1.kind : Int) < a2.kind) then some ((-1), ())
  else 
  (bif decide ((a1.kind : Int) > a2.kind) then some (1, ())
  else 
  (bif decide ((a1.n : Int) < a2.n) then some ((-1), ())
  else 
  (bif decide ((a1.n : Int) > a2.n) then some (1, ())
  else 
  (bif !(seq a1.s a2.s) then 
  (bytes_Compare (bytesI a1.s, bytesI a2.s, ())).bind fun (y3, _) => some (y3, ())
  else 
  iterN (fun rc15 => espalierref_OrderOf_s1 self_espalierref_OrderOf n rc15 (fun (o12, o13, _) => 
  (bif decide (((o12.1.l.length : Int) : Int) < (o13.1.l.length : Int)) then some ((-1), ())
  else 
  (bif decide (((o12.1.l.length : Int) : Int) > (o13.1.l.length : Int)) then some (1, ())
  else some (0, ())))) (fun (v14, _) => some (v14, ()))) (n) (0, ((Ev.Val.mk a1.kind a1.n a1.s a1.l), ()), ((Ev.Val.mk a2.kind a2.n a2.s a2.l), ()), ()))))))

noncomputable def espalierref_OrderOf : Nat → Ev.Val × Ev.Val × Unit → Option (Int × Unit)
  | 0, _ => none
  | n + 1, x => espalierref_OrderOf_b (espalierref_OrderOf n) n x

/-- espalierref.SameValue -/
noncomputable def espalierref_SameValue (n : Nat) : Ev.Val × Ev.Val × Unit → Option (Bool × Unit) :=
  fun (a1, a2, _) => 
  (espalierref_OrderOf n ((Ev.Val.mk a1.kind a1.n a1.s a1.l), (Ev.Val.mk a2.kind a2.n a2.s a2.l), ())).bind fun (y3, _) => some ((y3 : Int) == 0, ())

/-- a round of a loop of slices.Equal   int,int  -/
noncomputable def slices_Equal_int_int_s0 {ρ : Type} (n : Nat) (rec : (List Int) × (List Int) × Int × Int × Unit → Option ρ) (kx : Unit → Option ρ) (kr : Bool × Unit → Option ρ) : (List Int) × (List Int) × Int × Int × Unit → Option ρ :=
  fun (v3, v4, v5, v6, _) => 
  (bif decide ((v6 : Int) < v5) then 
  (ix v3 v6).bind fun x9 => 
  (ix v4 v6).bind fun x10 => 
  (bif (x9 : Int) != x10 then kr (false, ())
  else rec (v3, v4, v5, IntKind.wrap .i64 (v6 + 1), ()))
  else kx (()))

noncomputable def F_slices_Equal_int_int_s0 {ρ : Type} (n : Nat) (kr : Bool × Unit → Option ρ) : Int → Int → ((List Int) × Unit) → (((List Int) × Unit) → Option ρ) → Option ρ :=
  fun v6 x9 (v4, _) rec =>  
  (ix v4 v6).bind fun x10 => 
  (bif (x9 : Int) != x10 then kr (false, ())
  else rec (v4, ()))

theorem R_slices_Equal_int_int_s0 {ρ : Type} (n : Nat) (kx : Unit → Option ρ) (kr : Bool × Unit → Option ρ) (l : List Int) (fuel : Nat) (v4 : List Int) (hl : l.length ≤ 9223372036854775807) (hf : l.length < fuel) :
    iterN (fun rc => slices_Equal_int_int_s0 n rc kx kr) fuel (l, v4, (l.length : Int), 0, ()) = foldK (F_slices_Equal_int_int_s0 n kr) (fun (v4, _) => kx (())) 0 l (v4, ()) :=
  range_listM l (fun i (v4, _) => (l, v4, (l.length : Int), i, ())) _ _ _ (fun rec i s => rfl) hl fuel (v4, ()) hf

/-- slices.Equal   int,int  -/
noncomputable def slices_Equal_int_int (n : Nat) : (List Int) × (List Int) × Unit → Option (Bool × Unit) :=
  fun (a1, a2, _) => 
  (bif ((a1.length : Int) : Int) != (a2.length : Int) then some (false, ())
  else 
  iterN (fun rc12 => slices_Equal_int_int_s0 n rc12 (fun (_) => some (true, ())) (fun (v11, _) => some (v11, ()))) (n) (a1, a2, (a1.length : Int), 0, ()))

/-- espalierlaw.drawn -/
noncomputable def espalierlaw_drawn (n : Nat) : Unit → Option (Bool × Unit) :=
  fun (_) => 
  (espalierlaw_knows (())).bind fun (y1, _) => 
  (graph_Prop n ((Ev.Graph.mk y1.nodes y1.edges y1.next), 1, (⟨#[110]⟩ : ByteArray), ())).bind fun (y2, y3, _) => 
  (espalierlaw_knows (())).bind fun (y4, _) => 
  (graph_Around n ((Ev.Graph.mk y4.nodes y4.edges y4.next), 2, (⟨#[75]⟩ : ByteArray), true, ())).bind fun (y5, y6, _) => 
  (bif ((y3 : Int) == 0) && ((y6 : Int) == 0) then 
  (espalierlaw_num (5, ())).bind fun (y7, _) => 
  (espalierref_SameValue n ((Ev.Val.mk y2.kind y2.n y2.s y2.l), (Ev.Val.mk y7.kind y7.n y7.s y7.l), ())).bind fun (y8, _) => 
  (bif y8 then 
  (slices_Equal_int_int n (y5, ([3] : List Int), ())).bind fun (y9, _) => 
  (bif y9 then 
  (espalierlaw_knows (())).bind fun (y10, _) => 
  (graph_Check n ((Ev.Graph.mk y10.nodes y10.edges y10.next), ())).bind fun (y11, _) => some ((y11 : Int) == 0, ())
  else some (false, ()))
  else some (false, ()))
  else some (false, ()))

/-- a round of a loop of espalierlaw.GraphEnds -/
noncomputable def espalierlaw_GraphEnds_s2 {ρ : Type} (n : Nat) (rec : (List Int) × Bool × (List Bool) × Int × Int × (List Int) × Int × Int × (Ev.Graph × Unit) × (List Int) × Unit → Option ρ) (kx : (List Int) × (List Bool) × Int × Int × (Ev.Graph × Unit) × (List Int) × Unit → Option ρ) (kr : Bool × Unit → Option ρ) : (List Int) × Bool × (List Bool) × Int × Int × (List Int) × Int × Int × (Ev.Graph × Unit) × (List Int) × Unit → Option ρ :=
  fun (v12, v13, v14, v15, v16, v17, v18, v19, o20, o21, _) => 
  (bif decide ((v19 : Int) < v18) then 
  (ix v17 v19).bind fun x22 => 
  (graph_Around n ((Ev.Graph.mk o20.1.nodes o20.1.edges o20.1.next), x22, (⟨#[]⟩ : ByteArray), v13, ())).bind fun (y23, y24, _) => 
  (bif (y24 : Int) != 0 then kr (false, ())
  else 
  ck (room (o21 ++ y23).length 8) (rec (v12, v13, v14, v15, v16, v17, v18, IntKind.wrap .i64 (v19 + 1), ((Ev.Graph.mk o20.1.nodes o20.1.edges o20.1.next), ()), o21 ++ y23, ())))
  else kx (v12, v14, v15, v16, ((Ev.Graph.mk o20.1.nodes o20.1.edges o20.1.next), ()), o21, ()))

/-- a round of a loop of espalierlaw.GraphEnds -/
noncomputable def espalierlaw_GraphEnds_s4 {ρ : Type} (n : Nat) (rec : (List Int) × (List Int) × (List Bool) × Int × Int × (List Ev.Edg) × Int × Int × (Ev.Graph × Unit) × Unit → Option ρ) (kx : (List Int) × (List Bool) × Int × Int × (Ev.Graph × Unit) × Unit → Option ρ) (kr : Bool × Unit → Option ρ) : (List Int) × (List Int) × (List Bool) × Int × Int × (List Ev.Edg) × Int × Int × (Ev.Graph × Unit) × Unit → Option ρ :=
  fun (v33, v34, v35, v36, v37, v38, v39, v40, o41, _) => 
  (bif decide ((v40 : Int) < v39) then 
  (ix v38 v40).bind fun x42 => 
  (ix v34 v40).bind fun x44 => 
  (bif (x44 : Int) != x42.id then kr (false, ())
  else rec (v33, v34, v35, v36, v37, v38, v39, IntKind.wrap .i64 (v40 + 1), ((Ev.Graph.mk o41.1.nodes o41.1.edges o41.1.next), ()), ()))
  else kx (v33, v35, v36, v37, ((Ev.Graph.mk o41.1.nodes o41.1.edges o41.1.next), ()), ()))

/-- a round of a loop of espalierlaw.GraphEnds -/
noncomputable def espalierlaw_GraphEnds_s0 {ρ : Type} (n : Nat) (rec : (List Int) × (List Bool) × Int × Int × (Ev.Graph × Unit) × Unit → Option ρ) (kx : Unit → Option ρ) (kr : Bool × Unit → Option ρ) : (List Int) × (List Bool) × Int × Int × (Ev.Graph × Unit) × Unit → Option ρ :=
  fun (v6, v7, v8, v9, o10, _) => 
  (bif decide ((v9 : Int) < v8) then 
  (ix v7 v9).bind fun x11 => 
  iterN (fun rc52 => espalierlaw_GraphEnds_s2 n rc52 (fun (v25, v26, v27, v28, o29, o30, _) => 
  (sortN (o30, ())).bind fun (o32, _) => 
  (bif ((o32.length : Int) : Int) != (o29.1.edges.length : Int) then kr (false, ())
  else 
  iterN (fun rc51 => espalierlaw_GraphEnds_s4 n rc51 (fun (v45, v46, v47, v48, o49, _) => rec (v45, v46, v47, IntKind.wrap .i64 (v48 + 1), ((Ev.Graph.mk o49.1.nodes o49.1.edges o49.1.next), ()), ())) (fun (v50, _) => kr (v50, ()))) (n) (v25, o32, v26, v27, v28, o29.1.edges, (o29.1.edges.length : Int), 0, ((Ev.Graph.mk o29.1.nodes o29.1.edges o29.1.next), ()), ()))) (fun (v31, _) => kr (v31, ()))) (n) (v6, x11, v7, v8, v9, v6, (v6.length : Int), 0, ((Ev.Graph.mk o10.1.nodes o10.1.edges o10.1.next), ()), ([] : List Int), ())
  else kx (()))

noncomputable def F_espalierlaw_GraphEnds_s2 {ρ : Type} (n : Nat) (kr : Bool × Unit → Option ρ) : Int → Int → ((List Int) × Bool × (List Bool) × Int × Int × (Ev.Graph × Unit) × (List Int) × Unit) → (((List Int) × Bool × (List Bool) × Int × Int × (Ev.Graph × Unit) × (List Int) × Unit) → Option ρ) → Option ρ :=
  fun v19 x22 (v12, v13, v14, v15, v16, o20, o21, _) rec =>  
  (graph_Around n ((Ev.Graph.mk o20.1.nodes o20.1.edges o20.1.next), x22, (⟨#[]⟩ : ByteArray), v13, ())).bind fun (y23, y24, _) => 
  (bif (y24 : Int) != 0 then kr (false, ())
  else 
  ck (room (o21 ++ y23).length 8) (rec (v12, v13, v14, v15, v16, ((Ev.Graph.mk o20.1.nodes o20.1.edges o20.1.next), ()), o21 ++ y23, ())))

theorem R_espalierlaw_GraphEnds_s2 {ρ : Type} (n : Nat) (kx : (List Int) × (List Bool) × Int × Int × (Ev.Graph × Unit) × (List Int) × Unit → Option ρ) (kr : Bool × Unit → Option ρ) (l : List Int) (fuel : Nat) (v12 : List Int) (v13 : Bool) (v14 : List Bool) (v15 : Int) (v16 : Int) (o20 : Ev.Graph × Unit) (o21 : List Int) (hl : l.length ≤ 9223372036854775807) (hf : l.length < fuel) :
    iterN (fun rc => espalierlaw_GraphEnds_s2 n rc kx kr) fuel (v12, v13, v14, v15, v16, l, (l.length : Int), 0, o20, o21, ()) = foldK (F_espalierlaw_GraphEnds_s2 n kr) (fun (v12, v13, v14, v15, v16, o20, o21, _) => kx (v12, v14, v15, v16, ((Ev.Graph.mk o20.1.nodes o20.1.edges o20.1.next), ()), o21, ())) 0 l (v12, v13, v14, v15, v16, o20, o21, ()) :=
  range_listM l (fun i (v12, v13, v14, v15, v16, o20, o21, _) => (v12, v13, v14, v15, v16, l, (l.length : Int), i, o20, o21, ())) _ _ _ (fun rec i s => rfl) hl fuel (v12, v13, v14, v15, v16, o20, o21, ()) hf

noncomputable def F_espalierlaw_GraphEnds_s4 {ρ : Type} (n : Nat) (kr : Bool × Unit → Option ρ) : Int → Ev.Edg → ((List Int) × (List Int) × (List Bool) × Int × Int × (Ev.Graph × Unit) × Unit) → (((List Int) × (List Int) × (List Bool) × Int × Int × (Ev.Graph × Unit) × Unit) → Option ρ) → Option ρ :=
  fun v40 x42 (v33, v34, v35, v36, v37, o41, _) rec =>  
  (ix v34 v40).bind fun x44 => 
  (bif (x44 : Int) != x42.id then kr (false, ())
  else rec (v33, v34, v35, v36, v37, ((Ev.Graph.mk o41.1.nodes o41.1.edges o41.1.next), ()), ()))

theorem R_espalierlaw_GraphEnds_s4 {ρ : Type} (n : Nat) (kx : (List Int) × (List Bool) × Int × Int × (Ev.Graph × Unit) × Unit → Option ρ) (kr : Bool × Unit → Option ρ) (l : List Ev.Edg) (fuel : Nat) (v33 : List Int) (v34 : List Int) (v35 : List Bool) (v36 : Int) (v37 : Int) (o41 : Ev.Graph × Unit) (hl : l.length ≤ 9223372036854775807) (hf : l.length < fuel) :
    iterN (fun rc => espalierlaw_GraphEnds_s4 n rc kx kr) fuel (v33, v34, v35, v36, v37, l, (l.length : Int), 0, o41, ()) = foldK (F_espalierlaw_GraphEnds_s4 n kr) (fun (v33, v34, v35, v36, v37, o41, _) => kx (v33, v35, v36, v37, ((Ev.Graph.mk o41.1.nodes o41.1.edges o41.1.next), ()), ())) 0 l (v33, v34, v35, v36, v37, o41, ()) :=
  range_listM l (fun i (v33, v34, v35, v36, v37, o41, _) => (v33, v34, v35, v36, v37, l, (l.length : Int), i, o41, ())) _ _ _ (fun rec i s => rfl) hl fuel (v33, v34, v35, v36, v37, o41, ()) hf

/-- espalierlaw.GraphEnds -/
noncomputable def espalierlaw_GraphEnds (n : Nat) : Ev.Graph × Unit → Option (Bool × Unit) :=
  fun (a1, _) => 
  (graph_Labelled n ((Ev.Graph.mk a1.nodes a1.edges a1.next), (⟨#[]⟩ : ByteArray), ())).bind fun (y2, y3, _) => 
  (espalierlaw_drawn n (())).bind fun (y4, _) => 
  (bif (!y4) || ((y3 : Int) != 0) then 
  (espalierlaw_drawn n (())).bind fun (y5, _) => some (y5, ())
  else 
  iterN (fun rc54 => espalierlaw_GraphEnds_s0 n rc54 (fun (_) => some (true, ())) (fun (v53, _) => some (v53, ()))) (n) (y2, ([false, true] : List Bool), (([false, true] : List Bool).length : Int), 0, ((Ev.Graph.mk a1.nodes a1.edges a1.next), ()), ()))

end Pure

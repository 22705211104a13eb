/- Plain functions that compute what functions of the program compute (written by gen.py). -/
import Derived.Test.YtbbffefjgmcmnaaDoorEvLib
import Derived.Test.YtbbffefjgmcmnaaDoorPBase
namespace Pure
open Esp Ev Go
set_option linter.unusedSimpArgs false
set_option linter.unusedVariables false

/-- espalierlaw.num -/
noncomputable def espalierlaw_num : Int × Unit → Option (Ev.Val × Unit) :=
  fun (a1, _) => some ((Ev.Val.mk 2 a1 (⟨#[]⟩ : ByteArray) ([] : List Ev.Val)), ())

/-- espalierlaw.knows -/
noncomputable def espalierlaw_knows : Unit → Option (Ev.Graph × Unit) :=
  fun (_) => 
  (espalierlaw_num (5, ())).bind fun (y1, _) => some ((Ev.Graph.mk ([(Ev.Node.mk 1 ([(⟨#[65]⟩ : ByteArray)] : List ByteArray) ([(Ev.Prp.mk (⟨#[110]⟩ : ByteArray) (Ev.Val.mk y1.kind y1.n y1.s y1.l))] : List Ev.Prp)), (Ev.Node.mk 2 ([] : List ByteArray) ([] : List Ev.Prp))] : List Ev.Node) ([(Ev.Edg.mk 3 1 2 (⟨#[75]⟩ : ByteArray) ([] : List Ev.Prp))] : List Ev.Edg) 4), ())

/-- a round of a loop of graph.Name -/
noncomputable def graph_Name_s0 {ρ : Type} (n : Nat) (rec : ByteArray × Int × Int × Unit → Option ρ) (kx : Unit → Option ρ) (kr : Bool × Unit → Option ρ) : ByteArray × Int × Int × Unit → Option ρ :=
  fun (v2, v3, v4, _) => 
  (bif decide ((v4 : Int) < v3) then 
  (sat v2 v4).bind fun c5 => 
  (bif (!((((decide ((c5 : Int) ≥ 97)) && (decide ((c5 : Int) ≤ 122))) || ((decide ((c5 : Int) ≥ 65)) && (decide ((c5 : Int) ≤ 90)))) || ((c5 : Int) == 95))) && ((((v4 : Int) == 0) || (decide ((c5 : Int) < 48))) || (decide ((c5 : Int) > 57))) then kr (false, ())
  else rec (v2, v3, IntKind.wrap .i64 (v4 + 1), ()))
  else kx (()))

/-- graph.Name -/
noncomputable def graph_Name (n : Nat) : ByteArray × Unit → Option (Bool × Unit) :=
  fun (a1, _) => 
  (bif (seq a1 (⟨#[]⟩ : ByteArray)) || (decide (((a1.size : Int) : Int) > 12)) then some (false, ())
  else 
  iterN (fun rc7 => graph_Name_s0 n rc7 (fun (_) => some (true, ())) (fun (v6, _) => some (v6, ()))) (n) (a1, (a1.size : Int), 0, ()))

/-- a round of a loop of graph.Labels -/
noncomputable def graph_Labels_s0 {ρ : Type} (n : Nat) (rec : (List ByteArray) × (List ByteArray) × Int × Int × Unit → Option ρ) (kx : Unit → Option ρ) (kr : Int × Unit → Option ρ) : (List ByteArray) × (List ByteArray) × Int × Int × Unit → Option ρ :=
  fun (v2, v3, v4, v5, _) => 
  (bif decide ((v5 : Int) < v4) then 
  (ix v3 v5).bind fun x6 => 
  (graph_Name n (x6, ())).bind fun (y7, _) => 
  (bif !y7 then kr (6, ())
  else 
  (bif decide ((v5 : Int) > 0) then 
  (ix v2 (IntKind.wrap .i64 (v5 - 1))).bind fun x8 => 
  (bif !(sless x8 x6) then kr (6, ())
  else rec (v2, v3, v4, IntKind.wrap .i64 (v5 + 1), ()))
  else rec (v2, v3, v4, IntKind.wrap .i64 (v5 + 1), ())))
  else kx (()))

/-- graph.Labels -/
noncomputable def graph_Labels (n : Nat) : (List ByteArray) × Unit → Option (Int × Unit) :=
  fun (a1, _) => 
  (bif decide (((a1.length : Int) : Int) > 4) then some (2, ())
  else 
  iterN (fun rc10 => graph_Labels_s0 n rc10 (fun (_) => some (0, ())) (fun (v9, _) => some (v9, ()))) (n) (a1, a1, (a1.length : Int), 0, ()))

/-- a round of a loop of value.check -/
noncomputable def value_check_s1 {ρ : Type} (self_value_check : Ev.Val × Int × Unit → Option (Int × Unit)) (n : Nat) (rec : Int × (List Ev.Val) × Int × Int × (Ev.Val × Unit) × Unit → Option ρ) (kx : (Ev.Val × Unit) × Unit → Option ρ) (kr : Int × Unit → Option ρ) : Int × (List Ev.Val) × Int × Int × (Ev.Val × Unit) × Unit → Option ρ :=
  fun (v4, v5, v6, v7, o8, _) => 
  (bif decide ((v7 : Int) < v6) then 
  (ix v5 v7).bind fun x9 => 
  (self_value_check ((Ev.Val.mk x9.kind x9.n x9.s x9.l), IntKind.wrap .i64 (v4 + 1), ())).bind fun (y10, _) => 
  (bif (y10 : Int) != 0 then kr (y10, ())
  else rec (v4, v5, v6, IntKind.wrap .i64 (v7 + 1), ((Ev.Val.mk o8.1.kind o8.1.n o8.1.s o8.1.l), ()), ()))
  else kx (((Ev.Val.mk o8.1.kind o8.1.n o8.1.s o8.1.l), ()), ()))

/-- value.check -/
noncomputable def value_check_b (self_value_check : Ev.Val × Int × Unit → Option (Int × Unit)) (n : Nat) : Ev.Val × Int × Unit → Option (Int × Unit) :=
  fun (a1, a2, _) => 
  (bif (a1.kind : Int) == 0 then 
  (bif !((((a1.n : Int) == 0) && (seq a1.s (⟨#[]⟩ : ByteArray))) && (((a1.l.length : Int) : Int) == 0)) then some (6, ())
  else some (0, ()))
  else 
  (bif (a1.kind : Int) == 1 then 
  (bif !(((((a1.n : Int) == 0) || ((a1.n : Int) == 1)) && (seq a1.s (⟨#[]⟩ : ByteArray))) && (((a1.l.length : Int) : Int) == 0)) then some (6, ())
  else some (0, ()))
  else 
  (bif (a1.kind : Int) == 2 then 
  (bif !((seq a1.s (⟨#[]⟩ : ByteArray)) && (((a1.l.length : Int) : Int) == 0)) then some (6, ())
  else some (0, ()))
  else 
  (bif (a1.kind : Int) == 3 then 
  (bif decide (((a1.s.size : Int) : Int) > 4000) then some (2, ())
  else 
  (bif (a1.n : Int) == 0 then 
  (validN (a1.s, ())).bind fun (y3, _) => 
  (bif !(y3 && (((a1.l.length : Int) : Int) == 0)) then some (6, ())
  else some (0, ()))
  else some (6, ())))
  else 
  (bif (a1.kind : Int) == 4 then 
  (bif (decide (((a1.l.length : Int) : Int) > 30)) || (decide ((a2 : Int) > 6)) then some (2, ())
  else 
  iterN (fun rc13 => value_check_s1 self_value_check n rc13 (fun (o11, _) => 
  (bif !(((o11.1.n : Int) == 0) && (seq o11.1.s (⟨#[]⟩ : ByteArray))) then some (6, ())
  else some (0, ()))) (fun (v12, _) => some (v12, ()))) (n) (a2, a1.l, (a1.l.length : Int), 0, ((Ev.Val.mk a1.kind a1.n a1.s a1.l), ()), ()))
  else some (6, ()))))))

noncomputable def value_check : Nat → Ev.Val × Int × Unit → Option (Int × Unit)
  | 0, _ => none
  | n + 1, x => value_check_b (value_check n) n x

/-- value.Check -/
noncomputable def value_Check (n : Nat) : Ev.Val × Unit → Option (Int × Unit) :=
  fun (a1, _) => 
  (value_check n ((Ev.Val.mk a1.kind a1.n a1.s a1.l), 1, ())).bind fun (y2, _) => some (y2, ())

/-- a round of a loop of graph.Props -/
noncomputable def graph_Props_s0 {ρ : Type} (n : Nat) (rec : (List Ev.Prp) × (List Ev.Prp) × Int × Int × Unit → Option ρ) (kx : Unit → Option ρ) (kr : Int × Unit → Option ρ) : (List Ev.Prp) × (List Ev.Prp) × Int × Int × Unit → Option ρ :=
  fun (v2, v3, v4, v5, _) => 
  (bif decide ((v5 : Int) < v4) then 
  (ix v3 v5).bind fun x6 => 
  (graph_Name n (x6.name, ())).bind fun (y7, _) => 
  (bif !y7 then kr (6, ())
  else 
  (bif decide ((v5 : Int) > 0) then 
  (ix v2 (IntKind.wrap .i64 (v5 - 1))).bind fun x8 => 
  (bif (!(sless x8.name x6.name)) || ((x6.val.kind : Int) == 0) then kr (6, ())
  else 
  (value_Check n ((Ev.Val.mk x6.val.kind x6.val.n x6.val.s x6.val.l), ())).bind fun (y9, _) => 
  (bif (y9 : Int) != 0 then kr (y9, ())
  else rec (v2, v3, v4, IntKind.wrap .i64 (v5 + 1), ())))
  else 
  (bif (x6.val.kind : Int) == 0 then kr (6, ())
  else 
  (value_Check n ((Ev.Val.mk x6.val.kind x6.val.n x6.val.s x6.val.l), ())).bind fun (y10, _) => 
  (bif (y10 : Int) != 0 then kr (y10, ())
  else rec (v2, v3, v4, IntKind.wrap .i64 (v5 + 1), ())))))
  else kx (()))

/-- graph.Props -/
noncomputable def graph_Props (n : Nat) : (List Ev.Prp) × Unit → Option (Int × Unit) :=
  fun (a1, _) => 
  (bif decide (((a1.length : Int) : Int) > 6) then some (2, ())
  else 
  iterN (fun rc12 => graph_Props_s0 n rc12 (fun (_) => some (0, ())) (fun (v11, _) => some (v11, ()))) (n) (a1, a1, (a1.length : Int), 0, ()))

/-- a round of a loop of cmp.Or api.Errno  -/
noncomputable def cmp_Or_api_Errno_s0 {ρ : Type} (n : Nat) (rec : Int × (List Int) × Int × Int × Unit → Option ρ) (kx : Int × Unit → Option ρ) (kr : Int × Unit → Option ρ) : Int × (List Int) × Int × Int × Unit → Option ρ :=
  fun (v2, v3, v4, v5, _) => 
  (bif decide ((v5 : Int) < v4) then 
  (ix v3 v5).bind fun x6 => 
  (bif (x6 : Int) != v2 then kr (x6, ())
  else rec (v2, v3, v4, IntKind.wrap .i64 (v5 + 1), ()))
  else kx (v2, ()))

/-- cmp.Or api.Errno  -/
noncomputable def cmp_Or_api_Errno (n : Nat) : (List Int) × Unit → Option (Int × Unit) :=
  fun (a1, _) => 
  iterN (fun rc9 => cmp_Or_api_Errno_s0 n rc9 (fun (v7, _) => some (v7, ())) (fun (v8, _) => some (v8, ()))) (n) (0, a1, (a1.length : Int), 0, ())

/-- cmp.isNaN int  -/
noncomputable def cmp_isNaN_int : Int × Unit → Option (Bool × Unit) :=
  fun (a1, _) => some ((a1 : Int) != a1, ())

/-- cmp.Compare int  -/
noncomputable def cmp_Compare_int : Int × Int × Unit → Option (Int × Unit) :=
  fun (a1, a2, _) => 
  (cmp_isNaN_int (a1, ())).bind fun (y3, _) => 
  (cmp_isNaN_int (a2, ())).bind fun (y4, _) => 
  (bif y3 then 
  (bif y4 then some (0, ())
  else some ((-1), ()))
  else 
  (bif y4 then some (1, ())
  else 
  (bif decide ((a1 : Int) < a2) then some ((-1), ())
  else 
  (bif decide ((a1 : Int) > a2) then some (1, ())
  else some (0, ())))))

/-- graph.Find$1 -/
noncomputable def graph_Find_1 : Ev.Node × Int × Unit → Option (Int × Unit) :=
  fun (a1, a2, _) => 
  (cmp_Compare_int (a1.id, a2, ())).bind fun (y3, _) => some (y3, ())

/-- a round of a loop of slices.BinarySearchFunc   api.Node,api.Node,int  -/
noncomputable def slices_BinarySearchFunc_api_Node_api_Node_int_graph_Find_1_s0 {ρ : Type} (n : Nat) (rec : (List Ev.Node) × Int × Int × Int × Int × Unit → Option ρ) (kx : (List Ev.Node) × Int × Int × Int × Unit → Option ρ) (kr : Unit → Option ρ) : (List Ev.Node) × Int × Int × Int × Int × Unit → Option ρ :=
  fun (v3, v4, v5, v6, v7, _) => 
  (bif decide ((v6 : Int) < v7) then 
  (ix v3 (IntKind.wrap .i64 (bshr .u64 (IntKind.wrap .u64 (IntKind.wrap .i64 (v6 + v7))) 1))).bind fun x8 => 
  (graph_Find_1 ((Ev.Node.mk x8.id x8.labels x8.props), v4, ())).bind fun (y9, _) => 
  (bif decide ((y9 : Int) < 0) then rec (v3, v4, v5, IntKind.wrap .i64 ((IntKind.wrap .i64 (bshr .u64 (IntKind.wrap .u64 (IntKind.wrap .i64 (v6 + v7))) 1)) + 1), v7, ())
  else rec (v3, v4, v5, v6, IntKind.wrap .i64 (bshr .u64 (IntKind.wrap .u64 (IntKind.wrap .i64 (v6 + v7))) 1), ()))
  else kx (v3, v4, v5, v6, ()))

/-- slices.BinarySearchFunc   api.Node,api.Node,int  -/
noncomputable def slices_BinarySearchFunc_api_Node_api_Node_int_graph_Find_1 (n : Nat) : (List Ev.Node) × Int × Unit → Option (Int × Bool × Unit) :=
  fun (a1, a2, _) => 
  iterN (fun rc16 => slices_BinarySearchFunc_api_Node_api_Node_int_graph_Find_1_s0 n rc16 (fun (v10, v11, v12, v13, _) => 
  (bif decide ((v13 : Int) < v12) then 
  (ix v10 v13).bind fun x14 => 
  (graph_Find_1 ((Ev.Node.mk x14.id x14.labels x14.props), v11, ())).bind fun (y15, _) => some (v13, (y15 : Int) == 0, ())
  else some (v13, false, ()))) (fun (_) => none)) (n) (a1, a2, (a1.length : Int), 0, (a1.length : Int), ())

/-- graph.Find -/
noncomputable def graph_Find (n : Nat) : Ev.Graph × Int × Unit → Option (Int × Unit) :=
  fun (a1, a2, _) => 
  (slices_BinarySearchFunc_api_Node_api_Node_int_graph_Find_1 n (a1.nodes, a2, ())).bind fun (y3, y4, _) => 
  (bif !y4 then some ((-1), ())
  else some (y3, ()))

/-- a round of a loop of graph.Check -/
noncomputable def graph_Check_s0 {ρ : Type} (n : Nat) (rec : Int × (List Ev.Node) × Int × Int × (Ev.Graph × Unit) × Unit → Option ρ) (kx : Int × (Ev.Graph × Unit) × Unit → Option ρ) (kr : Int × Unit → Option ρ) : Int × (List Ev.Node) × Int × Int × (Ev.Graph × Unit) × Unit → Option ρ :=
  fun (v2, v3, v4, v5, o6, _) => 
  (bif decide ((v5 : Int) < v4) then 
  (ix v3 v5).bind fun x7 => 
  (bif decide ((x7.id : Int) ≤ v2) then kr (6, ())
  else 
  (graph_Labels n (x7.labels, ())).bind fun (y8, _) => 
  (graph_Props n (x7.props, ())).bind fun (y9, _) => 
  (cmp_Or_api_Errno n (([y8, y9] : List Int), ())).bind fun (y10, _) => 
  (bif (y10 : Int) != 0 then kr (y10, ())
  else rec (x7.id, v3, v4, IntKind.wrap .i64 (v5 + 1), ((Ev.Graph.mk o6.1.nodes o6.1.edges o6.1.next), ()), ())))
  else kx (v2, ((Ev.Graph.mk o6.1.nodes o6.1.edges o6.1.next), ()), ()))

/-- a round of a loop of graph.Check -/
noncomputable def graph_Check_s2 {ρ : Type} (n : Nat) (rec : Int × Int × (List Ev.Edg) × Int × Int × (Ev.Graph × Unit) × Unit → Option ρ) (kx : Int × Int × (Ev.Graph × Unit) × Unit → Option ρ) (kr : Int × Unit → Option ρ) : Int × Int × (List Ev.Edg) × Int × Int × (Ev.Graph × Unit) × Unit → Option ρ :=
  fun (v14, v15, v16, v17, v18, o19, _) => 
  (bif decide ((v18 : Int) < v17) then 
  (ix v16 v18).bind fun x20 => 
  (bif decide ((x20.id : Int) ≤ v14) then kr (6, ())
  else 
  (graph_Find n ((Ev.Graph.mk o19.1.nodes o19.1.edges o19.1.next), x20.id, ())).bind fun (y21, _) => 
  (bif decide ((y21 : Int) ≥ 0) then kr (6, ())
  else 
  (graph_Name n (x20.type, ())).bind fun (y22, _) => 
  (bif !y22 then kr (6, ())
  else 
  (graph_Find n ((Ev.Graph.mk o19.1.nodes o19.1.edges o19.1.next), x20.src, ())).bind fun (y23, _) => 
  (bif decide ((y23 : Int) < 0) then kr (5, ())
  else 
  (graph_Find n ((Ev.Graph.mk o19.1.nodes o19.1.edges o19.1.next), x20.dst, ())).bind fun (y24, _) => 
  (bif decide ((y24 : Int) < 0) then kr (5, ())
  else 
  (graph_Props n (x20.props, ())).bind fun (y25, _) => 
  (bif (y25 : Int) != 0 then kr (y25, ())
  else rec (x20.id, v15, v16, v17, IntKind.wrap .i64 (v18 + 1), ((Ev.Graph.mk o19.1.nodes o19.1.edges o19.1.next), ()), ())))))))
  else kx (v14, v15, ((Ev.Graph.mk o19.1.nodes o19.1.edges o19.1.next), ()), ()))

/-- graph.Check -/
noncomputable def graph_Check (n : Nat) : Ev.Graph × Unit → Option (Int × Unit) :=
  fun (a1, _) => 
  (bif (decide (((a1.nodes.length : Int) : Int) > 40)) || (decide (((a1.edges.length : Int) : Int) > 60)) then some (2, ())
  else 
  iterN (fun rc31 => graph_Check_s0 n rc31 (fun (v11, o12, _) => 
  iterN (fun rc30 => graph_Check_s2 n rc30 (fun (v26, v27, o28, _) => 
  (bif (decide ((o28.1.next : Int) ≤ (if v26 > v27 then v26 else v27))) || (decide ((o28.1.next : Int) > 1099511627776)) then some (9, ())
  else some (0, ()))) (fun (v29, _) => some (v29, ()))) (n) (0, v11, o12.1.edges, (o12.1.edges.length : Int), 0, ((Ev.Graph.mk o12.1.nodes o12.1.edges o12.1.next), ()), ())) (fun (v13, _) => some (v13, ()))) (n) (0, a1.nodes, (a1.nodes.length : Int), 0, ((Ev.Graph.mk a1.nodes a1.edges a1.next), ()), ()))

/-- a round of a loop of value.Copy -/
noncomputable def value_Copy_s0 {ρ : Type} (self_value_Copy : Ev.Val × Unit → Option (Ev.Val × Unit)) (n : Nat) (rec : (List Ev.Val) × Int × Int × (Int × Int × ByteArray × Unit) × (Ev.Val × Unit) × (List Ev.Val) × Unit → Option ρ) (kx : (Int × Int × ByteArray × Unit) × (Ev.Val × Unit) × (List Ev.Val) × Unit → Option ρ) (kr : Unit → Option ρ) : (List Ev.Val) × Int × Int × (Int × Int × ByteArray × Unit) × (Ev.Val × Unit) × (List Ev.Val) × Unit → Option ρ :=
  fun (v2, v3, v4, o5, o6, o7, _) => 
  (bif decide ((v4 : Int) < v3) then 
  (ix v2 v4).bind fun x8 => 
  (self_value_Copy ((Ev.Val.mk x8.kind x8.n x8.s x8.l), ())).bind fun (y9, _) => 
  ck (room (o7 ++ ([(Ev.Val.mk y9.kind y9.n y9.s y9.l)] : List Ev.Val)).length 56) (rec (v2, v3, IntKind.wrap .i64 (v4 + 1), (o5.1, o5.2.1, o5.2.2.1, ()), ((Ev.Val.mk o6.1.kind o6.1.n o6.1.s o6.1.l), ()), o7 ++ ([(Ev.Val.mk y9.kind y9.n y9.s y9.l)] : List Ev.Val), ()))
  else kx ((o5.1, o5.2.1, o5.2.2.1, ()), ((Ev.Val.mk o6.1.kind o6.1.n o6.1.s o6.1.l), ()), o7, ()))

/-- value.Copy -/
noncomputable def value_Copy_b (self_value_Copy : Ev.Val × Unit → Option (Ev.Val × Unit)) (n : Nat) : Ev.Val × Unit → Option (Ev.Val × Unit) :=
  fun (a1, _) => 
  iterN (fun rc13 => value_Copy_s0 self_value_Copy n rc13 (fun (o10, o11, o12, _) => some ((Ev.Val.mk o10.1 o10.2.1 o10.2.2.1 o12), ())) (fun (_) => none)) (n) (a1.l, (a1.l.length : Int), 0, (a1.kind, a1.n, a1.s, ()), ((Ev.Val.mk 0 0 (⟨#[]⟩ : ByteArray) ([] : List Ev.Val)), ()), ([] : List Ev.Val), ())

noncomputable def value_Copy : Nat → Ev.Val × Unit → Option (Ev.Val × Unit)
  | 0, _ => none
  | n + 1, x => value_Copy_b (value_Copy n) n x

/-- a round of a loop of graph.Get -/
noncomputable def graph_Get_s0 {ρ : Type} (n : Nat) (rec : ByteArray × (List Ev.Prp) × Int × Int × (Ev.Val × Unit) × Unit → Option ρ) (kx : (Ev.Val × Unit) × Unit → Option ρ) (kr : (Ev.Val × Unit) × Unit → Option ρ) : ByteArray × (List Ev.Prp) × Int × Int × (Ev.Val × Unit) × Unit → Option ρ :=
  fun (v3, v4, v5, v6, o7, _) => 
  (bif decide ((v6 : Int) < v5) then 
  (ix v4 v6).bind fun x8 => 
  (bif seq x8.name v3 then 
  (value_Copy n ((Ev.Val.mk x8.val.kind x8.val.n x8.val.s x8.val.l), ())).bind fun (y9, _) => kr (((Ev.Val.mk y9.kind y9.n y9.s y9.l), ()), ())
  else rec (v3, v4, v5, IntKind.wrap .i64 (v6 + 1), ((Ev.Val.mk o7.1.kind o7.1.n o7.1.s o7.1.l), ()), ()))
  else kx (((Ev.Val.mk o7.1.kind o7.1.n o7.1.s o7.1.l), ()), ()))

/-- graph.Get -/
noncomputable def graph_Get (n : Nat) : (List Ev.Prp) × ByteArray × Unit → Option (Ev.Val × Unit) :=
  fun (a1, a2, _) => 
  iterN (fun rc12 => graph_Get_s0 n rc12 (fun (o10, _) => some ((Ev.Val.mk 0 0 (⟨#[]⟩ : ByteArray) ([] : List Ev.Val)), ())) (fun (o11, _) => some ((Ev.Val.mk o11.1.kind o11.1.n o11.1.s o11.1.l), ()))) (n) (a2, a1, (a1.length : Int), 0, ((Ev.Val.mk 0 0 (⟨#[]⟩ : ByteArray) ([] : List Ev.Val)), ()), ())

/-- graph.FindEdge$1 -/
noncomputable def graph_FindEdge_1 : Ev.Edg × Int × Unit → Option (Int × Unit) :=
  fun (a1, a2, _) => 
  (cmp_Compare_int (a1.id, a2, ())).bind fun (y3, _) => some (y3, ())

/-- a round of a loop of slices.BinarySearchFunc   api.Edge,api.Edge,int  -/
noncomputable def slices_BinarySearchFunc_api_Edge_api_Edge_int_graph_FindEdge_1_s0 {ρ : Type} (n : Nat) (rec : (List Ev.Edg) × Int × Int × Int × Int × Unit → Option ρ) (kx : (List Ev.Edg) × Int × Int × Int × Unit → Option ρ) (kr : Unit → Option ρ) : (List Ev.Edg) × Int × Int × Int × Int × Unit → Option ρ :=
  fun (v3, v4, v5, v6, v7, _) => 
  (bif decide ((v6 : Int) < v7) then 
  (ix v3 (IntKind.wrap .i64 (bshr .u64 (IntKind.wrap .u64 (IntKind.wrap .i64 (v6 + v7))) 1))).bind fun x8 => 
  (graph_FindEdge_1 ((Ev.Edg.mk x8.id x8.src x8.dst x8.type x8.props), v4, ())).bind fun (y9, _) => 
  (bif decide ((y9 : Int) < 0) then rec (v3, v4, v5, IntKind.wrap .i64 ((IntKind.wrap .i64 (bshr .u64 (IntKind.wrap .u64 (IntKind.wrap .i64 (v6 + v7))) 1)) + 1), v7, ())
  else rec (v3, v4, v5, v6, IntKind.wrap .i64 (bshr .u64 (IntKind.wrap .u64 (IntKind.wrap .i64 (v6 + v7))) 1), ()))
  else kx (v3, v4, v5, v6, ()))

/-- slices.BinarySearchFunc   api.Edge,api.Edge,int  -/
noncomputable def slices_BinarySearchFunc_api_Edge_api_Edge_int_graph_FindEdge_1 (n : Nat) : (List Ev.Edg) × Int × Unit → Option (Int × Bool × Unit) :=
  fun (a1, a2, _) => 
  iterN (fun rc16 => slices_BinarySearchFunc_api_Edge_api_Edge_int_graph_FindEdge_1_s0 n rc16 (fun (v10, v11, v12, v13, _) => 
  (bif decide ((v13 : Int) < v12) then 
  (ix v10 v13).bind fun x14 => 
  (graph_FindEdge_1 ((Ev.Edg.mk x14.id x14.src x14.dst x14.type x14.props), v11, ())).bind fun (y15, _) => some (v13, (y15 : Int) == 0, ())
  else some (v13, false, ()))) (fun (_) => none)) (n) (a1, a2, (a1.length : Int), 0, (a1.length : Int), ())

/-- graph.FindEdge -/
noncomputable def graph_FindEdge (n : Nat) : Ev.Graph × Int × Unit → Option (Int × Unit) :=
  fun (a1, a2, _) => 
  (slices_BinarySearchFunc_api_Edge_api_Edge_int_graph_FindEdge_1 n (a1.edges, a2, ())).bind fun (y3, y4, _) => 
  (bif !y4 then some ((-1), ())
  else some (y3, ()))

/-- graph.Prop -/
noncomputable def graph_Prop (n : Nat) : Ev.Graph × Int × ByteArray × Unit → Option (Ev.Val × Int × Unit) :=
  fun (a1, a2, a3, _) => 
  (graph_Check n ((Ev.Graph.mk a1.nodes a1.edges a1.next), ())).bind fun (y4, _) => 
  (bif (y4 : Int) != 0 then some ((Ev.Val.mk 0 0 (⟨#[]⟩ : ByteArray) ([] : List Ev.Val)), y4, ())
  else 
  (graph_Find n ((Ev.Graph.mk a1.nodes a1.edges a1.next), a2, ())).bind fun (y5, _) => 
  (bif decide ((y5 : Int) ≥ 0) then 
  (ix a1.nodes y5).bind fun x6 => 
  (graph_Get n (x6.props, a3, ())).bind fun (y7, _) => some ((Ev.Val.mk y7.kind y7.n y7.s y7.l), 0, ())
  else 
  (graph_FindEdge n ((Ev.Graph.mk a1.nodes a1.edges a1.next), a2, ())).bind fun (y8, _) => 
  (bif decide ((y8 : Int) ≥ 0) then 
  (ix a1.edges y8).bind fun x9 => 
  (graph_Get n (x9.props, a3, ())).bind fun (y10, _) => some ((Ev.Val.mk y10.kind y10.n y10.s y10.l), 0, ())
  else some ((Ev.Val.mk 0 0 (⟨#[]⟩ : ByteArray) ([] : List Ev.Val)), 5, ()))))

/-- a round of a loop of graph.Around -/
noncomputable def graph_Around_s0 {ρ : Type} (n : Nat) (rec : Int × ByteArray × Bool × (List Ev.Edg) × Int × Int × (List Int) × Unit → Option ρ) (kx : (List Int) × Unit → Option ρ) (kr : Unit → Option ρ) : Int × ByteArray × Bool × (List Ev.Edg) × Int × Int × (List Int) × Unit → Option ρ :=
  fun (v7, v8, v9, v10, v11, v12, o13, _) => 
  (bif decide ((v12 : Int) < v11) then 
  (ix v10 v12).bind fun x14 => 
  (bif ((seq v8 (⟨#[]⟩ : ByteArray)) || (seq x14.type v8)) && ((v9 && ((x14.dst : Int) == v7)) || ((!v9) && ((x14.src : Int) == v7))) then 
  ck (room (o13 ++ ([x14.id] : List Int)).length 8) (rec (v7, v8, v9, v10, v11, IntKind.wrap .i64 (v12 + 1), o13 ++ ([x14.id] : List Int), ()))
  else rec (v7, v8, v9, v10, v11, IntKind.wrap .i64 (v12 + 1), o13, ()))
  else kx (o13, ()))

/-- graph.Around -/
noncomputable def graph_Around (n : Nat) : Ev.Graph × Int × ByteArray × Bool × Unit → Option ((List Int) × Int × Unit) :=
  fun (a1, a2, a3, a4, _) => 
  (graph_Check n ((Ev.Graph.mk a1.nodes a1.edges a1.next), ())).bind fun (y5, _) => 
  (bif (y5 : Int) != 0 then some (([] : List Int), y5, ())
  else 
  (graph_Find n ((Ev.Graph.mk a1.nodes a1.edges a1.next), a2, ())).bind fun (y6, _) => 
  (bif decide ((y6 : Int) < 0) then some (([] : List Int), 5, ())
  else 
  iterN (fun rc16 => graph_Around_s0 n rc16 (fun (o15, _) => some (o15, 0, ())) (fun (_) => none)) (n) (a2, a3, a4, a1.edges, (a1.edges.length : Int), 0, ([] : List Int), ())))

/-- bytes.Compare -/
noncomputable def bytes_Compare : (List Int) × (List Int) × Unit → Option (Int × Unit) :=
  fun (a1, a2, _) => 
  (cmpN (a1, a2, ())).bind fun (y3, _) => some (y3, ())

/-- a round of a loop of espalierref.OrderOf -/
noncomputable def espalierref_OrderOf_s1 {ρ : Type} (self_espalierref_OrderOf : Ev.Val × Ev.Val × Unit → Option (Int × Unit)) (n : Nat) (rec : Int × (Ev.Val × Unit) × (Ev.Val × Unit) × Unit → Option ρ) (kx : (Ev.Val × Unit) × (Ev.Val × Unit) × Unit → Option ρ) (kr : Int × Unit → Option ρ) : Int × (Ev.Val × Unit) × (Ev.Val × Unit) × Unit → Option ρ :=
  fun (v4, o5, o6, _) => 
  (bif (decide ((v4 : Int) < (o5.1.l.length : Int))) && (decide ((v4 : Int) < (o6.1.l.length : Int))) then 
  (ix o5.1.l v4).bind fun x9 => 
  (ix o6.1.l v4).bind fun x10 => 
  (self_espalierref_OrderOf ((Ev.Val.mk x9.kind x9.n x9.s x9.l), (Ev.Val.mk x10.kind x10.n x10.s x10.l), ())).bind fun (y11, _) => 
  (bif (y11 : Int) != 0 then kr (y11, ())
  else rec (IntKind.wrap .i64 (v4 + 1), ((Ev.Val.mk o5.1.kind o5.1.n o5.1.s o5.1.l), ()), ((Ev.Val.mk o6.1.kind o6.1.n o6.1.s o6.1.l), ()), ()))
  else kx (((Ev.Val.mk o5.1.kind o5.1.n o5.1.s o5.1.l), ()), ((Ev.Val.mk o6.1.kind o6.1.n o6.1.s o6.1.l), ()), ()))

/-- espalierref.OrderOf -/
noncomputable def espalierref_OrderOf_b (self_espalierref_OrderOf : Ev.Val × Ev.Val × Unit → Option (Int × Unit)) (n : Nat) : Ev.Val × Ev.Val × Unit → Option (Int × Unit) :=
  fun (a1, a2, _) => 
  (bif decide ((a1.kind : Int) < a2.kind) then some ((-1), ())
  else 
  (bif decide ((a1.kind : Int) > a2.kind) then some (1, ())
  else 
  (bif decide ((a1.n : Int) < a2.n) then some ((-1), ())
  else 
  (bif decide ((a1.n : Int) > a2.n) then some (1, ())
  else 
  (bif !(seq a1.s a2.s) then 
  (bytes_Compare (bytesI a1.s, bytesI a2.s, ())).bind fun (y3, _) => some (y3, ())
  else 
  iterN (fun rc15 => espalierref_OrderOf_s1 self_espalierref_OrderOf n rc15 (fun (o12, o13, _) => 
  (bif decide (((o12.1.l.length : Int) : Int) < (o13.1.l.length : Int)) then some ((-1), ())
  else 
  (bif decide (((o12.1.l.length : Int) : Int) > (o13.1.l.length : Int)) then some (1, ())
  else some (0, ())))) (fun (v14, _) => some (v14, ()))) (n) (0, ((Ev.Val.mk a1.kind a1.n a1.s a1.l), ()), ((Ev.Val.mk a2.kind a2.n a2.s a2.l), ()), ()))))))

noncomputable def espalierref_OrderOf : Nat → Ev.Val × Ev.Val × Unit → Option (Int × Unit)
  | 0, _ => none
  | n + 1, x => espalierref_OrderOf_b (espalierref_OrderOf n) n x

/-- espalierref.SameValue -/
noncomputable def espalierref_SameValue (n : Nat) : Ev.Val × Ev.Val × Unit → Option (Bool × Unit) :=
  fun (a1, a2, _) => 
  (espalierref_OrderOf n ((Ev.Val.mk a1.kind a1.n a1.s a1.l), (Ev.Val.mk a2.kind a2.n a2.s a2.l), ())).bind fun (y3, _) => some ((y3 : Int) == 0, ())

/-- a round of a loop of slices.Equal   int,int  -/
noncomputable def slices_Equal_int_int_s0 {ρ : Type} (n : Nat) (rec : (List Int) × (List Int) × Int × Int × Unit → Option ρ) (kx : Unit → Option ρ) (kr : Bool × Unit → Option ρ) : (List Int) × (List Int) × Int × Int × Unit → Option ρ :=
  fun (v3, v4, v5, v6, _) => 
  (bif decide ((v6 : Int) < v5) then 
  (ix v3 v6).bind fun x9 => 
  (ix v4 v6).bind fun x10 => 
  (bif (x9 : Int) != x10 then kr (false, ())
  else rec (v3, v4, v5, IntKind.wrap .i64 (v6 + 1), ()))
  else kx (()))

/-- slices.Equal   int,int  -/
noncomputable def slices_Equal_int_int (n : Nat) : (List Int) × (List Int) × Unit → Option (Bool × Unit) :=
  fun (a1, a2, _) => 
  (bif ((a1.length : Int) : Int) != (a2.length : Int) then some (false, ())
  else 
  iterN (fun rc12 => slices_Equal_int_int_s0 n rc12 (fun (_) => some (true, ())) (fun (v11, _) => some (v11, ()))) (n) (a1, a2, (a1.length : Int), 0, ()))

/-- espalierlaw.drawn -/
noncomputable def espalierlaw_drawn (n : Nat) : Unit → Option (Bool × Unit) :=
  fun (_) => 
  (espalierlaw_knows (())).bind fun (y1, _) => 
  (graph_Prop n ((Ev.Graph.mk y1.nodes y1.edges y1.next), 1, (⟨#[110]⟩ : ByteArray), ())).bind fun (y2, y3, _) => 
  (espalierlaw_knows (())).bind fun (y4, _) => 
  (graph_Around n ((Ev.Graph.mk y4.nodes y4.edges y4.next), 2, (⟨#[75]⟩ : ByteArray), true, ())).bind fun (y5, y6, _) => 
  (bif ((y3 : Int) == 0) && ((y6 : Int) == 0) then 
  (espalierlaw_num (5, ())).bind fun (y7, _) => 
  (espalierref_SameValue n ((Ev.Val.mk y2.kind y2.n y2.s y2.l), (Ev.Val.mk y7.kind y7.n y7.s y7.l), ())).bind fun (y8, _) => 
  (bif y8 then 
  (slices_Equal_int_int n (y5, ([3] : List Int), ())).bind fun (y9, _) => 
  (bif y9 then 
  (espalierlaw_knows (())).bind fun (y10, _) => 
  (graph_Check n ((Ev.Graph.mk y10.nodes y10.edges y10.next), ())).bind fun (y11, _) => some ((y11 : Int) == 0, ())
  else some (false, ()))
  else some (false, ()))
  else some (false, ()))

/-- espalierref.IsName -/
noncomputable def espalierref_IsName : ByteArray × Unit → Option (Bool × Unit) :=
  fun (a1, _) => 
  (bif (seq a1 (⟨#[]⟩ : ByteArray)) || (decide (((a1.size : Int) : Int) > 12)) then some (false, ())
  else 
  (sat a1 0).bind fun c2 => 
  (bif decide ((c2 : Int) ≥ 48) then 
  (sat a1 0).bind fun c3 => 
  (bif decide ((c3 : Int) ≤ 57) then some (false, ())
  else 
  (trimN (a1, (⟨#[97, 98, 99, 100, 101, 102, 103, 104, 105, 106, 107, 108, 109, 110, 111, 112, 113, 114, 115, 116, 117, 118, 119, 120, 121, 122, 65, 66, 67, 68, 69, 70, 71, 72, 73, 74, 75, 76, 77, 78, 79, 80, 81, 82, 83, 84, 85, 86, 87, 88, 89, 90, 48, 49, 50, 51, 52, 53, 54, 55, 56, 57, 95]⟩ : ByteArray), ())).bind fun (y4, _) => some (seq y4 (⟨#[]⟩ : ByteArray), ()))
  else 
  (trimN (a1, (⟨#[97, 98, 99, 100, 101, 102, 103, 104, 105, 106, 107, 108, 109, 110, 111, 112, 113, 114, 115, 116, 117, 118, 119, 120, 121, 122, 65, 66, 67, 68, 69, 70, 71, 72, 73, 74, 75, 76, 77, 78, 79, 80, 81, 82, 83, 84, 85, 86, 87, 88, 89, 90, 48, 49, 50, 51, 52, 53, 54, 55, 56, 57, 95]⟩ : ByteArray), ())).bind fun (y5, _) => some (seq y5 (⟨#[]⟩ : ByteArray), ())))

/-- a round of a loop of espalierref.CheckLabels -/
noncomputable def espalierref_CheckLabels_s0 {ρ : Type} (n : Nat) (rec : ByteArray × (List ByteArray) × Int × Int × Unit → Option ρ) (kx : Unit → Option ρ) (kr : Int × Unit → Option ρ) : ByteArray × (List ByteArray) × Int × Int × Unit → Option ρ :=
  fun (v2, v3, v4, v5, _) => 
  (bif decide ((v5 : Int) < v4) then 
  (ix v3 v5).bind fun x6 => 
  (espalierref_IsName (x6, ())).bind fun (y7, _) => 
  (bif (!y7) || (sless x6 v2 || seq x6 v2) then kr (6, ())
  else rec (x6, v3, v4, IntKind.wrap .i64 (v5 + 1), ()))
  else kx (()))

/-- espalierref.CheckLabels -/
noncomputable def espalierref_CheckLabels (n : Nat) : (List ByteArray) × Unit → Option (Int × Unit) :=
  fun (a1, _) => 
  (bif decide (((a1.length : Int) : Int) > 4) then some (2, ())
  else 
  iterN (fun rc9 => espalierref_CheckLabels_s0 n rc9 (fun (_) => some (0, ())) (fun (v8, _) => some (v8, ()))) (n) ((⟨#[]⟩ : ByteArray), a1, (a1.length : Int), 0, ()))

/-- a round of a loop of espalierref.CheckValue -/
noncomputable def espalierref_CheckValue_s1 {ρ : Type} (self_espalierref_CheckValue : Ev.Val × Int × Unit → Option (Int × Unit)) (n : Nat) (rec : Int × Bool × Bool × (List Ev.Val) × Int × Int × Unit → Option ρ) (kx : Bool × Bool × Unit → Option ρ) (kr : Int × Unit → Option ρ) : Int × Bool × Bool × (List Ev.Val) × Int × Int × Unit → Option ρ :=
  fun (v3, v4, v5, v6, v7, v8, _) => 
  (bif decide ((v8 : Int) < v7) then 
  (ix v6 v8).bind fun x9 => 
  (self_espalierref_CheckValue ((Ev.Val.mk x9.kind x9.n x9.s x9.l), IntKind.wrap .i64 (v3 + 1), ())).bind fun (y10, _) => 
  (bif (y10 : Int) != 0 then kr (y10, ())
  else rec (v3, v4, v5, v6, v7, IntKind.wrap .i64 (v8 + 1), ()))
  else kx (v4, v5, ()))

/-- espalierref.CheckValue -/
noncomputable def espalierref_CheckValue_b (self_espalierref_CheckValue : Ev.Val × Int × Unit → Option (Int × Unit)) (n : Nat) : Ev.Val × Int × Unit → Option (Int × Unit) :=
  fun (a1, a2, _) => 
  (bif (a1.kind : Int) == 4 then 
  (bif (decide (((a1.l.length : Int) : Int) > 30)) || (decide ((a2 : Int) > 6)) then some (2, ())
  else 
  iterN (fun rc14 => espalierref_CheckValue_s1 self_espalierref_CheckValue n rc14 (fun (v11, v12, _) => 
  (bif v11 && v12 then some (0, ())
  else some (6, ()))) (fun (v13, _) => some (v13, ()))) (n) (a2, (a1.n : Int) == 0, seq a1.s (⟨#[]⟩ : ByteArray), a1.l, (a1.l.length : Int), 0, ()))
  else 
  (bif (a1.kind : Int) == 3 then 
  (bif decide (((a1.s.size : Int) : Int) > 4000) then some (2, ())
  else 
  (bif ((a1.n : Int) == 0) && (((a1.l.length : Int) : Int) == 0) then 
  (validN (a1.s, ())).bind fun (y15, _) => 
  (bif y15 then some (0, ())
  else some (6, ()))
  else some (6, ())))
  else 
  (bif (a1.kind : Int) == 0 then 
  (bif (((a1.n : Int) == 0) && (seq a1.s (⟨#[]⟩ : ByteArray))) && (((a1.l.length : Int) : Int) == 0) then some (0, ())
  else some (6, ()))
  else 
  (bif (a1.kind : Int) == 1 then 
  (bif ((((a1.n : Int) == 0) || ((a1.n : Int) == 1)) && (seq a1.s (⟨#[]⟩ : ByteArray))) && (((a1.l.length : Int) : Int) == 0) then some (0, ())
  else some (6, ()))
  else 
  (bif (a1.kind : Int) == 2 then 
  (bif (seq a1.s (⟨#[]⟩ : ByteArray)) && (((a1.l.length : Int) : Int) == 0) then some (0, ())
  else some (6, ()))
  else some (6, ()))))))

noncomputable def espalierref_CheckValue : Nat → Ev.Val × Int × Unit → Option (Int × Unit)
  | 0, _ => none
  | n + 1, x => espalierref_CheckValue_b (espalierref_CheckValue n) n x

/-- a round of a loop of espalierref.CheckProps -/
noncomputable def espalierref_CheckProps_s0 {ρ : Type} (n : Nat) (rec : ByteArray × (List Ev.Prp) × Int × Int × Unit → Option ρ) (kx : Unit → Option ρ) (kr : Int × Unit → Option ρ) : ByteArray × (List Ev.Prp) × Int × Int × Unit → Option ρ :=
  fun (v2, v3, v4, v5, _) => 
  (bif decide ((v5 : Int) < v4) then 
  (ix v3 v5).bind fun x6 => 
  (espalierref_IsName (x6.name, ())).bind fun (y7, _) => 
  (bif ((!y7) || (sless x6.name v2 || seq x6.name v2)) || ((x6.val.kind : Int) == 0) then kr (6, ())
  else 
  (espalierref_CheckValue n ((Ev.Val.mk x6.val.kind x6.val.n x6.val.s x6.val.l), 1, ())).bind fun (y8, _) => 
  (bif (y8 : Int) != 0 then kr (y8, ())
  else rec (x6.name, v3, v4, IntKind.wrap .i64 (v5 + 1), ())))
  else kx (()))

/-- espalierref.CheckProps -/
noncomputable def espalierref_CheckProps (n : Nat) : (List Ev.Prp) × Unit → Option (Int × Unit) :=
  fun (a1, _) => 
  (bif decide (((a1.length : Int) : Int) > 6) then some (2, ())
  else 
  iterN (fun rc10 => espalierref_CheckProps_s0 n rc10 (fun (_) => some (0, ())) (fun (v9, _) => some (v9, ()))) (n) ((⟨#[]⟩ : ByteArray), a1, (a1.length : Int), 0, ()))

/-- espalierlaw.GraphNames -/
noncomputable def espalierlaw_GraphNames (n : Nat) : ByteArray × (List ByteArray) × (List Ev.Prp) × Unit → Option (Bool × Unit) :=
  fun (a1, a2, a3, _) => 
  (espalierlaw_drawn n (())).bind fun (y4, _) => 
  (bif y4 then 
  (graph_Name n (a1, ())).bind fun (y5, _) => 
  (espalierref_IsName (a1, ())).bind fun (y6, _) => 
  (bif y5 == y6 then 
  (graph_Labels n (a2, ())).bind fun (y7, _) => 
  (espalierref_CheckLabels n (a2, ())).bind fun (y8, _) => 
  (bif (y7 : Int) == y8 then 
  (graph_Props n (a3, ())).bind fun (y9, _) => 
  (espalierref_CheckProps n (a3, ())).bind fun (y10, _) => some ((y9 : Int) == y10, ())
  else some (false, ()))
  else some (false, ()))
  else some (false, ()))

/-- a round of a loop of espalierref.NodeAt -/
noncomputable def espalierref_NodeAt_s0 {ρ : Type} (n : Nat) (rec : Int × Int × Int × (Ev.Graph × Unit) × Unit → Option ρ) (kx : Unit → Option ρ) (kr : Ev.Node × Unit → Option ρ) : Int × Int × Int × (Ev.Graph × Unit) × Unit → Option ρ :=
  fun (v3, v4, v5, o6, _) => 
  (bif decide ((v5 : Int) < v4) then 
  (ix o6.1.nodes v5).bind fun x7 => 
  (bif (x7.id : Int) == v3 then 
  (ix o6.1.nodes v5).bind fun x8 => kr ((Ev.Node.mk x8.id x8.labels x8.props), ())
  else rec (v3, v4, IntKind.wrap .i64 (v5 + 1), ((Ev.Graph.mk o6.1.nodes o6.1.edges o6.1.next), ()), ()))
  else kx (()))

/-- espalierref.NodeAt -/
noncomputable def espalierref_NodeAt (n : Nat) : Ev.Graph × Int × Unit → Option ((Option Ev.Node) × Unit) :=
  fun (a1, a2, _) => 
  iterN (fun rc10 => espalierref_NodeAt_s0 n rc10 (fun (_) => some (none, ())) (fun (v9, _) => some (some (Ev.Node.mk v9.id v9.labels v9.props), ()))) (n) (a2, (a1.nodes.length : Int), 0, ((Ev.Graph.mk a1.nodes a1.edges a1.next), ()), ())

/-- a round of a loop of espalierref.CheckGraph -/
noncomputable def espalierref_CheckGraph_s0 {ρ : Type} (n : Nat) (rec : Int × Int × (List Ev.Node) × Int × Int × (Ev.Graph × Unit) × Unit → Option ρ) (kx : Int × (Ev.Graph × Unit) × Unit → Option ρ) (kr : Int × Unit → Option ρ) : Int × Int × (List Ev.Node) × Int × Int × (Ev.Graph × Unit) × Unit → Option ρ :=
  fun (v2, v3, v4, v5, v6, o7, _) => 
  (bif decide ((v6 : Int) < v5) then 
  (ix v4 v6).bind fun x8 => 
  (bif decide ((x8.id : Int) ≤ v3) then kr (6, ())
  else 
  (espalierref_CheckLabels n (x8.labels, ())).bind fun (y9, _) => 
  (bif (y9 : Int) != 0 then kr (y9, ())
  else 
  (espalierref_CheckProps n (x8.props, ())).bind fun (y10, _) => 
  (bif (y10 : Int) != 0 then kr (y10, ())
  else rec (x8.id, x8.id, v4, v5, IntKind.wrap .i64 (v6 + 1), ((Ev.Graph.mk o7.1.nodes o7.1.edges o7.1.next), ()), ()))))
  else kx (v2, ((Ev.Graph.mk o7.1.nodes o7.1.edges o7.1.next), ()), ()))

/-- a round of a loop of espalierref.CheckGraph -/
noncomputable def espalierref_CheckGraph_s2 {ρ : Type} (n : Nat) (rec : Int × Int × (List Ev.Edg) × Int × Int × (Ev.Graph × Unit) × Unit → Option ρ) (kx : Int × (Ev.Graph × Unit) × Unit → Option ρ) (kr : Int × Unit → Option ρ) : Int × Int × (List Ev.Edg) × Int × Int × (Ev.Graph × Unit) × Unit → Option ρ :=
  fun (v14, v15, v16, v17, v18, o19, _) => 
  (bif decide ((v18 : Int) < v17) then 
  (ix v16 v18).bind fun x20 => 
  (bif decide ((x20.id : Int) ≤ v15) then kr (6, ())
  else 
  (espalierref_NodeAt n ((Ev.Graph.mk o19.1.nodes o19.1.edges o19.1.next), x20.id, ())).bind fun (y21, _) => 
  optC y21 (
  (espalierref_IsName (x20.type, ())).bind fun (y23, _) => 
  (bif !y23 then kr (6, ())
  else 
  (espalierref_NodeAt n ((Ev.Graph.mk o19.1.nodes o19.1.edges o19.1.next), x20.src, ())).bind fun (y24, _) => 
  optC y24 (kr (5, ())) (fun z25 => 
  (espalierref_NodeAt n ((Ev.Graph.mk o19.1.nodes o19.1.edges o19.1.next), x20.dst, ())).bind fun (y26, _) => 
  optC y26 (kr (5, ())) (fun z27 => 
  (espalierref_CheckProps n (x20.props, ())).bind fun (y28, _) => 
  (bif (y28 : Int) != 0 then kr (y28, ())
  else rec ((if x20.id > v14 then x20.id else v14), x20.id, v16, v17, IntKind.wrap .i64 (v18 + 1), ((Ev.Graph.mk o19.1.nodes o19.1.edges o19.1.next), ()), ())))))) (fun z22 => kr (6, ())))
  else kx (v14, ((Ev.Graph.mk o19.1.nodes o19.1.edges o19.1.next), ()), ()))

/-- espalierref.CheckGraph -/
noncomputable def espalierref_CheckGraph (n : Nat) : Ev.Graph × Unit → Option (Int × Unit) :=
  fun (a1, _) => 
  (bif (decide (((a1.nodes.length : Int) : Int) > 40)) || (decide (((a1.edges.length : Int) : Int) > 60)) then some (2, ())
  else 
  iterN (fun rc33 => espalierref_CheckGraph_s0 n rc33 (fun (v11, o12, _) => 
  iterN (fun rc32 => espalierref_CheckGraph_s2 n rc32 (fun (v29, o30, _) => 
  (bif (decide ((o30.1.next : Int) ≤ v29)) || (decide ((o30.1.next : Int) > 1099511627776)) then some (9, ())
  else some (0, ()))) (fun (v31, _) => some (v31, ()))) (n) (v11, 0, o12.1.edges, (o12.1.edges.length : Int), 0, ((Ev.Graph.mk o12.1.nodes o12.1.edges o12.1.next), ()), ())) (fun (v13, _) => some (v13, ()))) (n) (0, 0, a1.nodes, (a1.nodes.length : Int), 0, ((Ev.Graph.mk a1.nodes a1.edges a1.next), ()), ()))

/-- espalierlaw.GraphCheck -/
noncomputable def espalierlaw_GraphCheck (n : Nat) : Ev.Graph × Unit → Option (Bool × Unit) :=
  fun (a1, _) => 
  (espalierlaw_drawn n (())).bind fun (y2, _) => 
  (bif y2 then 
  (graph_Check n ((Ev.Graph.mk a1.nodes a1.edges a1.next), ())).bind fun (y3, _) => 
  (espalierref_CheckGraph n ((Ev.Graph.mk a1.nodes a1.edges a1.next), ())).bind fun (y4, _) => some ((y3 : Int) == y4, ())
  else some (false, ()))

/-- espalierlaw.none -/
noncomputable def espalierlaw_none (n : Nat) : Ev.Val × Unit → Option (Bool × Unit) :=
  fun (a1, _) => 
  (espalierref_SameValue n ((Ev.Val.mk a1.kind a1.n a1.s a1.l), (Ev.Val.mk 0 0 (⟨#[]⟩ : ByteArray) ([] : List Ev.Val)), ())).bind fun (y2, _) => some (y2, ())

/-- a round of a loop of espalierref.EdgeAt -/
noncomputable def espalierref_EdgeAt_s0 {ρ : Type} (n : Nat) (rec : Int × Int × Int × (Ev.Graph × Unit) × Unit → Option ρ) (kx : Unit → Option ρ) (kr : Ev.Edg × Unit → Option ρ) : Int × Int × Int × (Ev.Graph × Unit) × Unit → Option ρ :=
  fun (v3, v4, v5, o6, _) => 
  (bif decide ((v5 : Int) < v4) then 
  (ix o6.1.edges v5).bind fun x7 => 
  (bif (x7.id : Int) == v3 then 
  (ix o6.1.edges v5).bind fun x8 => kr ((Ev.Edg.mk x8.id x8.src x8.dst x8.type x8.props), ())
  else rec (v3, v4, IntKind.wrap .i64 (v5 + 1), ((Ev.Graph.mk o6.1.nodes o6.1.edges o6.1.next), ()), ()))
  else kx (()))

/-- espalierref.EdgeAt -/
noncomputable def espalierref_EdgeAt (n : Nat) : Ev.Graph × Int × Unit → Option ((Option Ev.Edg) × Unit) :=
  fun (a1, a2, _) => 
  iterN (fun rc10 => espalierref_EdgeAt_s0 n rc10 (fun (_) => some (none, ())) (fun (v9, _) => some (some (Ev.Edg.mk v9.id v9.src v9.dst v9.type v9.props), ()))) (n) (a2, (a1.edges.length : Int), 0, ((Ev.Graph.mk a1.nodes a1.edges a1.next), ()), ())

/-- a round of a loop of espalierref.PropOf -/
noncomputable def espalierref_PropOf_s0 {ρ : Type} (n : Nat) (rec : ByteArray × (List Ev.Prp) × Int × Int × (Ev.Val × Unit) × Unit → Option ρ) (kx : (Ev.Val × Unit) × Unit → Option ρ) (kr : (Ev.Val × Unit) × Unit → Option ρ) : ByteArray × (List Ev.Prp) × Int × Int × (Ev.Val × Unit) × Unit → Option ρ :=
  fun (v3, v4, v5, v6, o7, _) => 
  (bif decide ((v6 : Int) < v5) then 
  (ix v4 v6).bind fun x8 => 
  (bif seq x8.name v3 then kr (((Ev.Val.mk x8.val.kind x8.val.n x8.val.s x8.val.l), ()), ())
  else rec (v3, v4, v5, IntKind.wrap .i64 (v6 + 1), ((Ev.Val.mk o7.1.kind o7.1.n o7.1.s o7.1.l), ()), ()))
  else kx (((Ev.Val.mk o7.1.kind o7.1.n o7.1.s o7.1.l), ()), ()))

/-- espalierref.PropOf -/
noncomputable def espalierref_PropOf (n : Nat) : (List Ev.Prp) × ByteArray × Unit → Option (Ev.Val × Unit) :=
  fun (a1, a2, _) => 
  iterN (fun rc11 => espalierref_PropOf_s0 n rc11 (fun (o9, _) => some ((Ev.Val.mk 0 0 (⟨#[]⟩ : ByteArray) ([] : List Ev.Val)), ())) (fun (o10, _) => some ((Ev.Val.mk o10.1.kind o10.1.n o10.1.s o10.1.l), ()))) (n) (a2, a1, (a1.length : Int), 0, ((Ev.Val.mk 0 0 (⟨#[]⟩ : ByteArray) ([] : List Ev.Val)), ()), ())

/-- espalierlaw.GraphProp -/
noncomputable def espalierlaw_GraphProp (n : Nat) : Ev.Graph × Int × ByteArray × Unit → Option (Bool × Unit) :=
  fun (a1, a2, a3, _) => 
  (graph_Prop n ((Ev.Graph.mk a1.nodes a1.edges a1.next), a2, a3, ())).bind fun (y4, y5, _) => 
  (espalierref_CheckGraph n ((Ev.Graph.mk a1.nodes a1.edges a1.next), ())).bind fun (y6, _) => 
  (espalierlaw_drawn n (())).bind fun (y7, _) => 
  (bif (!y7) || ((y6 : Int) != 0) then 
  (espalierlaw_drawn n (())).bind fun (y8, _) => 
  (bif y8 && ((y5 : Int) == y6) then 
  (espalierlaw_none n ((Ev.Val.mk y4.kind y4.n y4.s y4.l), ())).bind fun (y9, _) => some (y9, ())
  else some (false, ()))
  else 
  (espalierref_NodeAt n ((Ev.Graph.mk a1.nodes a1.edges a1.next), a2, ())).bind fun (y10, _) => 
  optC y10 (
  (espalierref_EdgeAt n ((Ev.Graph.mk a1.nodes a1.edges a1.next), a2, ())).bind fun (y12, _) => 
  optC y12 (
  (bif (y5 : Int) == 5 then 
  (espalierlaw_none n ((Ev.Val.mk y4.kind y4.n y4.s y4.l), ())).bind fun (y14, _) => some (y14, ())
  else some (false, ()))) (fun z13 => 
  (bif (y5 : Int) == 0 then 
  (espalierref_PropOf n (z13.props, a3, ())).bind fun (y15, _) => 
  (espalierref_SameValue n ((Ev.Val.mk y4.kind y4.n y4.s y4.l), (Ev.Val.mk y15.kind y15.n y15.s y15.l), ())).bind fun (y16, _) => some (y16, ())
  else some (false, ())))) (fun z11 => 
  (espalierref_EdgeAt n ((Ev.Graph.mk a1.nodes a1.edges a1.next), a2, ())).bind fun (y17, _) => 
  optC y17 (
  (bif (y5 : Int) == 0 then 
  (espalierref_PropOf n (z11.props, a3, ())).bind fun (y19, _) => 
  (espalierref_SameValue n ((Ev.Val.mk y4.kind y4.n y4.s y4.l), (Ev.Val.mk y19.kind y19.n y19.s y19.l), ())).bind fun (y20, _) => some (y20, ())
  else some (false, ()))) (fun z18 => 
  (bif (y5 : Int) == 0 then 
  (espalierref_PropOf n (z11.props, a3, ())).bind fun (y21, _) => 
  (espalierref_SameValue n ((Ev.Val.mk y4.kind y4.n y4.s y4.l), (Ev.Val.mk y21.kind y21.n y21.s y21.l), ())).bind fun (y22, _) => some (y22, ())
  else some (false, ())))))

/-- a round of a loop of slices.Index   string,string  -/
noncomputable def slices_Index_string_string_s0 {ρ : Type} (n : Nat) (rec : (List ByteArray) × ByteArray × Int × Int × Unit → Option ρ) (kx : Unit → Option ρ) (kr : Int × Unit → Option ρ) : (List ByteArray) × ByteArray × Int × Int × Unit → Option ρ :=
  fun (v3, v4, v5, v6, _) => 
  (bif decide ((v6 : Int) < v5) then 
  (ix v3 v6).bind fun x7 => 
  (bif seq v4 x7 then kr (v6, ())
  else rec (v3, v4, v5, IntKind.wrap .i64 (v6 + 1), ()))
  else kx (()))

/-- slices.Index   string,string  -/
noncomputable def slices_Index_string_string (n : Nat) : (List ByteArray) × ByteArray × Unit → Option (Int × Unit) :=
  fun (a1, a2, _) => 
  iterN (fun rc9 => slices_Index_string_string_s0 n rc9 (fun (_) => some ((-1), ())) (fun (v8, _) => some (v8, ()))) (n) (a1, a2, (a1.length : Int), 0, ())

/-- slices.Contains   string,string  -/
noncomputable def slices_Contains_string_string (n : Nat) : (List ByteArray) × ByteArray × Unit → Option (Bool × Unit) :=
  fun (a1, a2, _) => 
  (slices_Index_string_string n (a1, a2, ())).bind fun (y3, _) => some (decide ((y3 : Int) ≥ 0), ())

/-- a round of a loop of graph.Labelled -/
noncomputable def graph_Labelled_s0 {ρ : Type} (n : Nat) (rec : ByteArray × (List Ev.Node) × Int × Int × (List Int) × Unit → Option ρ) (kx : (List Int) × Unit → Option ρ) (kr : Unit → Option ρ) : ByteArray × (List Ev.Node) × Int × Int × (List Int) × Unit → Option ρ :=
  fun (v4, v5, v6, v7, o8, _) => 
  (bif decide ((v7 : Int) < v6) then 
  (ix v5 v7).bind fun x9 => 
  (bif seq v4 (⟨#[]⟩ : ByteArray) then 
  ck (room (o8 ++ ([x9.id] : List Int)).length 8) (rec (v4, v5, v6, IntKind.wrap .i64 (v7 + 1), o8 ++ ([x9.id] : List Int), ()))
  else 
  (slices_Contains_string_string n (x9.labels, v4, ())).bind fun (y10, _) => 
  (bif y10 then 
  ck (room (o8 ++ ([x9.id] : List Int)).length 8) (rec (v4, v5, v6, IntKind.wrap .i64 (v7 + 1), o8 ++ ([x9.id] : List Int), ()))
  else rec (v4, v5, v6, IntKind.wrap .i64 (v7 + 1), o8, ())))
  else kx (o8, ()))

/-- graph.Labelled -/
noncomputable def graph_Labelled (n : Nat) : Ev.Graph × ByteArray × Unit → Option ((List Int) × Int × Unit) :=
  fun (a1, a2, _) => 
  (graph_Check n ((Ev.Graph.mk a1.nodes a1.edges a1.next), ())).bind fun (y3, _) => 
  (bif (y3 : Int) != 0 then some (([] : List Int), y3, ())
  else 
  iterN (fun rc12 => graph_Labelled_s0 n rc12 (fun (o11, _) => some (o11, 0, ())) (fun (_) => none)) (n) (a2, a1.nodes, (a1.nodes.length : Int), 0, ([] : List Int), ()))

/-- a round of a loop of espalierlaw.GraphAround -/
noncomputable def espalierlaw_GraphAround_s0 {ρ : Type} (n : Nat) (rec : ByteArray × Int × ByteArray × Bool × (List Int) × Int × (List Int) × Int × (List Ev.Node) × Int × Int × (Ev.Graph × Unit) × (List Int) × Unit → Option ρ) (kx : Int × ByteArray × Bool × (List Int) × Int × (List Int) × Int × (Ev.Graph × Unit) × (List Int) × Unit → Option ρ) (kr : Unit → Option ρ) : ByteArray × Int × ByteArray × Bool × (List Int) × Int × (List Int) × Int × (List Ev.Node) × Int × Int × (Ev.Graph × Unit) × (List Int) × Unit → Option ρ :=
  fun (v13, v14, v15, v16, v17, v18, v19, v20, v21, v22, v23, o24, o25, _) => 
  (bif decide ((v23 : Int) < v22) then 
  (ix v21 v23).bind fun x26 => 
  (bif seq v13 (⟨#[]⟩ : ByteArray) then 
  ck (room (o25 ++ ([x26.id] : List Int)).length 8) (rec (v13, v14, v15, v16, v17, v18, v19, v20, v21, v22, IntKind.wrap .i64 (v23 + 1), ((Ev.Graph.mk o24.1.nodes o24.1.edges o24.1.next), ()), o25 ++ ([x26.id] : List Int), ()))
  else 
  (slices_Contains_string_string n (x26.labels, v13, ())).bind fun (y27, _) => 
  (bif y27 then 
  ck (room (o25 ++ ([x26.id] : List Int)).length 8) (rec (v13, v14, v15, v16, v17, v18, v19, v20, v21, v22, IntKind.wrap .i64 (v23 + 1), ((Ev.Graph.mk o24.1.nodes o24.1.edges o24.1.next), ()), o25 ++ ([x26.id] : List Int), ()))
  else rec (v13, v14, v15, v16, v17, v18, v19, v20, v21, v22, IntKind.wrap .i64 (v23 + 1), ((Ev.Graph.mk o24.1.nodes o24.1.edges o24.1.next), ()), o25, ())))
  else kx (v14, v15, v16, v17, v18, v19, v20, ((Ev.Graph.mk o24.1.nodes o24.1.edges o24.1.next), ()), o25, ()))

/-- a round of a loop of espalierlaw.GraphAround -/
noncomputable def espalierlaw_GraphAround_s2 {ρ : Type} (n : Nat) (rec : Int × ByteArray × Bool × (List Int) × Int × (List Ev.Edg) × Int × Int × (List Int) × Unit → Option ρ) (kx : (List Int) × Int × (List Int) × Unit → Option ρ) (kr : Unit → Option ρ) : Int × ByteArray × Bool × (List Int) × Int × (List Ev.Edg) × Int × Int × (List Int) × Unit → Option ρ :=
  fun (v40, v41, v42, v43, v44, v45, v46, v47, o48, _) => 
  (bif decide ((v47 : Int) < v46) then 
  (ix v45 v47).bind fun x49 => 
  (bif v42 then 
  (bif ((x49.dst : Int) == v40) && ((seq v41 (⟨#[]⟩ : ByteArray)) || (seq v41 x49.type)) then 
  ck (room (o48 ++ ([x49.id] : List Int)).length 8) (rec (v40, v41, v42, v43, v44, v45, v46, IntKind.wrap .i64 (v47 + 1), o48 ++ ([x49.id] : List Int), ()))
  else rec (v40, v41, v42, v43, v44, v45, v46, IntKind.wrap .i64 (v47 + 1), o48, ()))
  else 
  (bif ((x49.src : Int) == v40) && ((seq v41 (⟨#[]⟩ : ByteArray)) || (seq v41 x49.type)) then 
  ck (room (o48 ++ ([x49.id] : List Int)).length 8) (rec (v40, v41, v42, v43, v44, v45, v46, IntKind.wrap .i64 (v47 + 1), o48 ++ ([x49.id] : List Int), ()))
  else rec (v40, v41, v42, v43, v44, v45, v46, IntKind.wrap .i64 (v47 + 1), o48, ())))
  else kx (v43, v44, o48, ()))

/-- espalierlaw.GraphAround -/
noncomputable def espalierlaw_GraphAround (n : Nat) : Ev.Graph × ByteArray × Int × ByteArray × Bool × Unit → Option (Bool × Unit) :=
  fun (a1, a2, a3, a4, a5, _) => 
  (graph_Labelled n ((Ev.Graph.mk a1.nodes a1.edges a1.next), a2, ())).bind fun (y6, y7, _) => 
  (graph_Around n ((Ev.Graph.mk a1.nodes a1.edges a1.next), a3, a4, a5, ())).bind fun (y8, y9, _) => 
  (espalierref_CheckGraph n ((Ev.Graph.mk a1.nodes a1.edges a1.next), ())).bind fun (y10, _) => 
  (espalierlaw_drawn n (())).bind fun (y11, _) => 
  (bif (!y11) || ((y10 : Int) != 0) then 
  (espalierlaw_drawn n (())).bind fun (y12, _) => some ((((y12 && ((y7 : Int) == y10)) && ((y9 : Int) == y10)) && (((y6.length : Int) : Int) == 0)) && (((y8.length : Int) : Int) == 0), ())
  else 
  iterN (fun rc55 => espalierlaw_GraphAround_s0 n rc55 (fun (v28, v29, v30, v31, v32, v33, v34, o35, o36, _) => 
  (bif (v32 : Int) != 0 then some (false, ())
  else 
  (slices_Equal_int_int n (v31, o36, ())).bind fun (y37, _) => 
  (bif !y37 then some (false, ())
  else 
  (espalierref_NodeAt n ((Ev.Graph.mk o35.1.nodes o35.1.edges o35.1.next), v28, ())).bind fun (y38, _) => 
  optC y38 (some (((v34 : Int) == 5) && (((v33.length : Int) : Int) == 0), ())) (fun z39 => 
  iterN (fun rc54 => espalierlaw_GraphAround_s2 n rc54 (fun (v50, v51, o52, _) => 
  (bif (v51 : Int) == 0 then 
  (slices_Equal_int_int n (v50, o52, ())).bind fun (y53, _) => some (y53, ())
  else some (false, ()))) (fun (_) => none)) (n) (v28, v29, v30, v33, v34, o35.1.edges, (o35.1.edges.length : Int), 0, ([] : List Int), ()))))) (fun (_) => none)) (n) (a2, a3, a4, a5, y6, y7, y8, y9, a1.nodes, (a1.nodes.length : Int), 0, ((Ev.Graph.mk a1.nodes a1.edges a1.next), ()), ([] : List Int), ()))

end Pure

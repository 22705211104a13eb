/- Plain functions that compute what functions of the program compute (written by gen.py). -/
import Derived.Test.YtffefjmpmgkfoaaGreatDoorEvLib
import Derived.Test.YtffefjmpmgkfoaaGreatDoorPRange
import Derived.Test.YtffefjmpmgkfoaaGreatDoorEvGrow
import Derived.Test.YtffefjmpmgkfoaaGreatDoorEvSplit
import Derived.Test.YtffefjmpmgkfoaaGreatDoorPPrR
namespace Pure
open Esp Ev Go
set_option linter.unusedSimpArgs false
set_option linter.unusedVariables false

noncomputable def q54z_s0 {ρ : Type} (n : Nat) (rec : ByteArray × Int × Int × Unit → Option ρ) (kx : Unit → Option ρ) (kr : Bool × Unit → Option ρ) : ByteArray × Int × Int × Unit → Option ρ :=
  fun (v2, v3, v4, _) =>
  (bif decide ((v4 : Int) < v3) then
  (sat v2 v4).bind fun c5 =>
  (bif (!((((decide ((c5 : Int) ≥ 97)) && (decide ((c5 : Int) ≤ 122))) || ((decide ((c5 : Int) ≥ 65)) && (decide ((c5 : Int) ≤ 90)))) || ((c5 : Int) == 95))) && ((((v4 : Int) == 0) || (decide ((c5 : Int) < 48))) || (decide ((c5 : Int) > 57))) then kr (false, ())
  else rec (v2, v3, IntKind.wrap .i64 (v4 + 1), ()))
  else kx (()))

noncomputable def F_q54z_s0 {ρ : Type} (n : Nat) (kr : Bool × Unit → Option ρ) : Int → Int → Unit → (Unit → Option ρ) → Option ρ :=
  fun v4 c5 (_) rec =>
  (bif (!((((decide ((c5 : Int) ≥ 97)) && (decide ((c5 : Int) ≤ 122))) || ((decide ((c5 : Int) ≥ 65)) && (decide ((c5 : Int) ≤ 90)))) || ((c5 : Int) == 95))) && ((((v4 : Int) == 0) || (decide ((c5 : Int) < 48))) || (decide ((c5 : Int) > 57))) then kr (false, ())
  else rec (()))

theorem R_q54z_s0 {ρ : Type} (n : Nat) (kx : Unit → Option ρ) (kr : Bool × Unit → Option ρ) (l : ByteArray) (fuel : Nat) (hl : l.size ≤ 4611686018427387904) (hf : l.size < fuel) :
    iterN (fun rc => q54z_s0 n rc kx kr) fuel (l, (l.size : Int), 0, ()) = foldK (F_q54z_s0 n kr) (fun (_) => kx (())) 0 (bi l.data.toList) (()) :=
  range_str l (fun i (_) => (l, (l.size : Int), i, ())) _ _ _ (fun rec i s => rfl) hl fuel (()) hf

noncomputable def q54z (n : Nat) : ByteArray × Unit → Option (Bool × Unit) :=
  fun (a1, _) =>
  (bif (seq a1 (⟨#[]⟩ : ByteArray)) || (decide (((a1.size : Int) : Int) > 12)) then some (false, ())
  else
  iterN (fun rc7 => q54z_s0 n rc7 (fun (_) => some (true, ())) (fun (v6, _) => some (v6, ()))) (n) (a1, (a1.size : Int), 0, ()))

noncomputable def q43z_s0 {ρ : Type} (n : Nat) (rec : (List ByteArray) × (List ByteArray) × Int × Int × Unit → Option ρ) (kx : Unit → Option ρ) (kr : Int × Unit → Option ρ) : (List ByteArray) × (List ByteArray) × Int × Int × Unit → Option ρ :=
  fun (v2, v3, v4, v5, _) =>
  (bif decide ((v5 : Int) < v4) then
  (ix v3 v5).bind fun x6 =>
  (q54z n (x6, ())).bind fun (y7, _) =>
  (bif !y7 then kr (6, ())
  else
  (bif decide ((v5 : Int) > 0) then
  (ix v2 (IntKind.wrap .i64 (v5 - 1))).bind fun x8 =>
  (bif !(sless x8 x6) then kr (6, ())
  else rec (v2, v3, v4, IntKind.wrap .i64 (v5 + 1), ()))
  else rec (v2, v3, v4, IntKind.wrap .i64 (v5 + 1), ())))
  else kx (()))

noncomputable def F_q43z_s0 {ρ : Type} (n : Nat) (kr : Int × Unit → Option ρ) : Int → ByteArray → ((List ByteArray) × Unit) → (((List ByteArray) × Unit) → Option ρ) → Option ρ :=
  fun v5 x6 (v2, _) rec =>
  (q54z n (x6, ())).bind fun (y7, _) =>
  (bif !y7 then kr (6, ())
  else
  (bif decide ((v5 : Int) > 0) then
  (ix v2 (IntKind.wrap .i64 (v5 - 1))).bind fun x8 =>
  (bif !(sless x8 x6) then kr (6, ())
  else rec (v2, ()))
  else rec (v2, ())))

theorem R_q43z_s0 {ρ : Type} (n : Nat) (kx : Unit → Option ρ) (kr : Int × Unit → Option ρ) (l : List ByteArray) (fuel : Nat) (v2 : List ByteArray) (hl : l.length ≤ 9223372036854775807) (hf : l.length < fuel) :
    iterN (fun rc => q43z_s0 n rc kx kr) fuel (v2, l, (l.length : Int), 0, ()) = foldK (F_q43z_s0 n kr) (fun (v2, _) => kx (())) 0 l (v2, ()) :=
  range_listM l (fun i (v2, _) => (v2, l, (l.length : Int), i, ())) _ _ _ (fun rec i s => rfl) hl fuel (v2, ()) hf

noncomputable def q43z (n : Nat) : (List ByteArray) × Unit → Option (Int × Unit) :=
  fun (a1, _) =>
  (bif decide (((a1.length : Int) : Int) > 4) then some (2, ())
  else
  iterN (fun rc10 => q43z_s0 n rc10 (fun (_) => some (0, ())) (fun (v9, _) => some (v9, ()))) (n) (a1, a1, (a1.length : Int), 0, ()))

noncomputable def q51z_s1 {ρ : Type} (self_q51z : Ev.Val × Int × Unit → Option (Int × Unit)) (n : Nat) (rec : Int × (List Ev.Val) × Int × Int × (Ev.Val × Unit) × Unit → Option ρ) (kx : (Ev.Val × Unit) × Unit → Option ρ) (kr : Int × Unit → Option ρ) : Int × (List Ev.Val) × Int × Int × (Ev.Val × Unit) × Unit → Option ρ :=
  fun (v4, v5, v6, v7, o8, _) =>
  (bif decide ((v7 : Int) < v6) then
  (ix v5 v7).bind fun x9 =>
  (self_q51z ((Ev.Val.mk x9.kind x9.n x9.s x9.l), IntKind.wrap .i64 (v4 + 1), ())).bind fun (y10, _) =>
  (bif (y10 : Int) != 0 then kr (y10, ())
  else rec (v4, v5, v6, IntKind.wrap .i64 (v7 + 1), ((Ev.Val.mk o8.1.kind o8.1.n o8.1.s o8.1.l), ()), ()))
  else kx (((Ev.Val.mk o8.1.kind o8.1.n o8.1.s o8.1.l), ()), ()))

noncomputable def F_q51z_s1 {ρ : Type} (self_q51z : Ev.Val × Int × Unit → Option (Int × Unit)) (n : Nat) (kr : Int × Unit → Option ρ) : Int → Ev.Val → (Int × (Ev.Val × Unit) × Unit) → ((Int × (Ev.Val × Unit) × Unit) → Option ρ) → Option ρ :=
  fun v7 x9 (v4, o8, _) rec =>
  (self_q51z ((Ev.Val.mk x9.kind x9.n x9.s x9.l), IntKind.wrap .i64 (v4 + 1), ())).bind fun (y10, _) =>
  (bif (y10 : Int) != 0 then kr (y10, ())
  else rec (v4, ((Ev.Val.mk o8.1.kind o8.1.n o8.1.s o8.1.l), ()), ()))

theorem R_q51z_s1 {ρ : Type} (self_q51z : Ev.Val × Int × Unit → Option (Int × Unit)) (n : Nat) (kx : (Ev.Val × Unit) × Unit → Option ρ) (kr : Int × Unit → Option ρ) (l : List Ev.Val) (fuel : Nat) (v4 : Int) (o8 : Ev.Val × Unit) (hl : l.length ≤ 9223372036854775807) (hf : l.length < fuel) :
    iterN (fun rc => q51z_s1 self_q51z n rc kx kr) fuel (v4, l, (l.length : Int), 0, o8, ()) = foldK (F_q51z_s1 self_q51z n kr) (fun (v4, o8, _) => kx (((Ev.Val.mk o8.1.kind o8.1.n o8.1.s o8.1.l), ()), ())) 0 l (v4, o8, ()) :=
  range_listM l (fun i (v4, o8, _) => (v4, l, (l.length : Int), i, o8, ())) _ _ _ (fun rec i s => rfl) hl fuel (v4, o8, ()) hf

noncomputable def q51z_b (self_q51z : Ev.Val × Int × Unit → Option (Int × Unit)) (n : Nat) : Ev.Val × Int × Unit → Option (Int × Unit) :=
  fun (a1, a2, _) =>
  (bif (a1.kind : Int) == 0 then
  (bif !((((a1.n : Int) == 0) && (seq a1.s (⟨#[]⟩ : ByteArray))) && (((a1.l.length : Int) : Int) == 0)) then some (6, ())
  else some (0, ()))
  else
  (bif (a1.kind : Int) == 1 then
  (bif !(((((a1.n : Int) == 0) || ((a1.n : Int) == 1)) && (seq a1.s (⟨#[]⟩ : ByteArray))) && (((a1.l.length : Int) : Int) == 0)) then some (6, ())
  else some (0, ()))
  else
  (bif (a1.kind : Int) == 2 then
  (bif !((seq a1.s (⟨#[]⟩ : ByteArray)) && (((a1.l.length : Int) : Int) == 0)) then some (6, ())
  else some (0, ()))
  else
  (bif (a1.kind : Int) == 3 then
  (bif decide (((a1.s.size : Int) : Int) > 4000) then some (2, ())
  else
  (bif (a1.n : Int) == 0 then
  (validN (a1.s, ())).bind fun (y3, _) =>
  (bif !(y3 && (((a1.l.length : Int) : Int) == 0)) then some (6, ())
  else some (0, ()))
  else some (6, ())))
  else
  (bif (a1.kind : Int) == 4 then
  (bif (decide (((a1.l.length : Int) : Int) > 30)) || (decide ((a2 : Int) > 6)) then some (2, ())
  else
  iterN (fun rc13 => q51z_s1 self_q51z n rc13 (fun (o11, _) =>
  (bif !(((o11.1.n : Int) == 0) && (seq o11.1.s (⟨#[]⟩ : ByteArray))) then some (6, ())
  else some (0, ()))) (fun (v12, _) => some (v12, ()))) (n) (a2, a1.l, (a1.l.length : Int), 0, ((Ev.Val.mk a1.kind a1.n a1.s a1.l), ()), ()))
  else some (6, ()))))))

noncomputable def q51z : Nat → Ev.Val × Int × Unit → Option (Int × Unit)
  | 0, _ => none
  | n + 1, x => q51z_b (q51z n) n x

noncomputable def q48z (n : Nat) : Ev.Val × Unit → Option (Int × Unit) :=
  fun (a1, _) =>
  (q51z n ((Ev.Val.mk a1.kind a1.n a1.s a1.l), 1, ())).bind fun (y2, _) => some (y2, ())

noncomputable def q47z_s0 {ρ : Type} (n : Nat) (rec : (List Ev.Prp) × (List Ev.Prp) × Int × Int × Unit → Option ρ) (kx : Unit → Option ρ) (kr : Int × Unit → Option ρ) : (List Ev.Prp) × (List Ev.Prp) × Int × Int × Unit → Option ρ :=
  fun (v2, v3, v4, v5, _) =>
  (bif decide ((v5 : Int) < v4) then
  (ix v3 v5).bind fun x6 =>
  (q54z n (x6.name, ())).bind fun (y8, _) =>
  (bif !y8 then kr (6, ())
  else
  (bif decide ((v5 : Int) > 0) then
  (ix v2 (IntKind.wrap .i64 (v5 - 1))).bind fun x9 =>
  (bif (!(sless x9.name x6.name)) || ((x6.val.kind : Int) == 0) then kr (6, ())
  else
  (q48z n ((Ev.Val.mk x6.val.kind x6.val.n x6.val.s x6.val.l), ())).bind fun (y10, _) =>
  (bif (y10 : Int) != 0 then kr (y10, ())
  else rec (v2, v3, v4, IntKind.wrap .i64 (v5 + 1), ())))
  else
  (bif (x6.val.kind : Int) == 0 then kr (6, ())
  else
  (q48z n ((Ev.Val.mk x6.val.kind x6.val.n x6.val.s x6.val.l), ())).bind fun (y11, _) =>
  (bif (y11 : Int) != 0 then kr (y11, ())
  else rec (v2, v3, v4, IntKind.wrap .i64 (v5 + 1), ())))))
  else kx (()))

noncomputable def F_q47z_s0 {ρ : Type} (n : Nat) (kr : Int × Unit → Option ρ) : Int → Ev.Prp → ((List Ev.Prp) × Unit) → (((List Ev.Prp) × Unit) → Option ρ) → Option ρ :=
  fun v5 x6 (v2, _) rec =>
  (q54z n (x6.name, ())).bind fun (y8, _) =>
  (bif !y8 then kr (6, ())
  else
  (bif decide ((v5 : Int) > 0) then
  (ix v2 (IntKind.wrap .i64 (v5 - 1))).bind fun x9 =>
  (bif (!(sless x9.name x6.name)) || ((x6.val.kind : Int) == 0) then kr (6, ())
  else
  (q48z n ((Ev.Val.mk x6.val.kind x6.val.n x6.val.s x6.val.l), ())).bind fun (y10, _) =>
  (bif (y10 : Int) != 0 then kr (y10, ())
  else rec (v2, ())))
  else
  (bif (x6.val.kind : Int) == 0 then kr (6, ())
  else
  (q48z n ((Ev.Val.mk x6.val.kind x6.val.n x6.val.s x6.val.l), ())).bind fun (y11, _) =>
  (bif (y11 : Int) != 0 then kr (y11, ())
  else rec (v2, ())))))

theorem R_q47z_s0 {ρ : Type} (n : Nat) (kx : Unit → Option ρ) (kr : Int × Unit → Option ρ) (l : List Ev.Prp) (fuel : Nat) (v2 : List Ev.Prp) (hl : l.length ≤ 9223372036854775807) (hf : l.length < fuel) :
    iterN (fun rc => q47z_s0 n rc kx kr) fuel (v2, l, (l.length : Int), 0, ()) = foldK (F_q47z_s0 n kr) (fun (v2, _) => kx (())) 0 l (v2, ()) :=
  range_listM l (fun i (v2, _) => (v2, l, (l.length : Int), i, ())) _ _ _ (fun rec i s => rfl) hl fuel (v2, ()) hf

noncomputable def q47z (n : Nat) : (List Ev.Prp) × Unit → Option (Int × Unit) :=
  fun (a1, _) =>
  (bif decide (((a1.length : Int) : Int) > 6) then some (2, ())
  else
  iterN (fun rc13 => q47z_s0 n rc13 (fun (_) => some (0, ())) (fun (v12, _) => some (v12, ()))) (n) (a1, a1, (a1.length : Int), 0, ()))

noncomputable def q36z_s0 {ρ : Type} (n : Nat) (rec : Int × (List Int) × Int × Int × Unit → Option ρ) (kx : Int × Unit → Option ρ) (kr : Int × Unit → Option ρ) : Int × (List Int) × Int × Int × Unit → Option ρ :=
  fun (v2, v3, v4, v5, _) =>
  (bif decide ((v5 : Int) < v4) then
  (ix v3 v5).bind fun x6 =>
  (bif (x6 : Int) != v2 then kr (x6, ())
  else rec (v2, v3, v4, IntKind.wrap .i64 (v5 + 1), ()))
  else kx (v2, ()))

noncomputable def F_q36z_s0 {ρ : Type} (n : Nat) (kr : Int × Unit → Option ρ) : Int → Int → (Int × Unit) → ((Int × Unit) → Option ρ) → Option ρ :=
  fun v5 x6 (v2, _) rec =>
  (bif (x6 : Int) != v2 then kr (x6, ())
  else rec (v2, ()))

theorem R_q36z_s0 {ρ : Type} (n : Nat) (kx : Int × Unit → Option ρ) (kr : Int × Unit → Option ρ) (l : List Int) (fuel : Nat) (v2 : Int) (hl : l.length ≤ 9223372036854775807) (hf : l.length < fuel) :
    iterN (fun rc => q36z_s0 n rc kx kr) fuel (v2, l, (l.length : Int), 0, ()) = foldK (F_q36z_s0 n kr) (fun (v2, _) => kx (v2, ())) 0 l (v2, ()) :=
  range_listM l (fun i (v2, _) => (v2, l, (l.length : Int), i, ())) _ _ _ (fun rec i s => rfl) hl fuel (v2, ()) hf

noncomputable def q36z (n : Nat) : (List Int) × Unit → Option (Int × Unit) :=
  fun (a1, _) =>
  iterN (fun rc9 => q36z_s0 n rc9 (fun (v7, _) => some (v7, ())) (fun (v8, _) => some (v8, ()))) (n) (0, a1, (a1.length : Int), 0, ())

noncomputable def q41z : Int × Unit → Option (Bool × Unit) :=
  fun (a1, _) => some ((a1 : Int) != a1, ())

noncomputable def q37z : Int × Int × Unit → Option (Int × Unit) :=
  fun (a1, a2, _) =>
  (q41z (a1, ())).bind fun (y3, _) =>
  (q41z (a2, ())).bind fun (y4, _) =>
  (bif y3 then
  (bif y4 then some (0, ())
  else some ((-1), ()))
  else
  (bif y4 then some (1, ())
  else
  (bif decide ((a1 : Int) < a2) then some ((-1), ())
  else
  (bif decide ((a1 : Int) > a2) then some (1, ())
  else some (0, ())))))

noncomputable def q42z : Ev.Node × Int × Unit → Option (Int × Unit) :=
  fun (a1, a2, _) =>
  (q37z (a1.id, a2, ())).bind fun (y3, _) => some (y3, ())

noncomputable def q3z_s0 {ρ : Type} (n : Nat) (rec : (List Ev.Node) × Int × Int × Int × Int × Unit → Option ρ) (kx : (List Ev.Node) × Int × Int × Int × Unit → Option ρ) (kr : Unit → Option ρ) : (List Ev.Node) × Int × Int × Int × Int × Unit → Option ρ :=
  fun (v3, v4, v5, v6, v7, _) =>
  (bif decide ((v6 : Int) < v7) then
  (ix v3 (IntKind.wrap .i64 (bshr .u64 (IntKind.wrap .u64 (IntKind.wrap .i64 (v6 + v7))) 1))).bind fun x8 =>
  (q42z ((Ev.Node.mk x8.id x8.labels x8.props), v4, ())).bind fun (y9, _) =>
  (bif decide ((y9 : Int) < 0) then rec (v3, v4, v5, IntKind.wrap .i64 ((IntKind.wrap .i64 (bshr .u64 (IntKind.wrap .u64 (IntKind.wrap .i64 (v6 + v7))) 1)) + 1), v7, ())
  else rec (v3, v4, v5, v6, IntKind.wrap .i64 (bshr .u64 (IntKind.wrap .u64 (IntKind.wrap .i64 (v6 + v7))) 1), ()))
  else kx (v3, v4, v5, v6, ()))

noncomputable def q3z (n : Nat) : (List Ev.Node) × Int × Unit → Option (Int × Bool × Unit) :=
  fun (a1, a2, _) =>
  iterN (fun rc16 => q3z_s0 n rc16 (fun (v10, v11, v12, v13, _) =>
  (bif decide ((v13 : Int) < v12) then
  (ix v10 v13).bind fun x14 =>
  (q42z ((Ev.Node.mk x14.id x14.labels x14.props), v11, ())).bind fun (y15, _) => some (v13, (y15 : Int) == 0, ())
  else some (v13, false, ()))) (fun (_) => none)) (n) (a1, a2, (a1.length : Int), 0, (a1.length : Int), ())

noncomputable def q53z (n : Nat) : Ev.Graph × Int × Unit → Option (Int × Unit) :=
  fun (a1, a2, _) =>
  (q3z n (a1.nodes, a2, ())).bind fun (y3, y4, _) =>
  (bif !y4 then some ((-1), ())
  else some (y3, ()))

noncomputable def q46z_s0 {ρ : Type} (n : Nat) (rec : Int × (List Ev.Node) × Int × Int × (Ev.Graph × Unit) × Unit → Option ρ) (kx : Int × (Ev.Graph × Unit) × Unit → Option ρ) (kr : Int × Unit → Option ρ) : Int × (List Ev.Node) × Int × Int × (Ev.Graph × Unit) × Unit → Option ρ :=
  fun (v2, v3, v4, v5, o6, _) =>
  (bif decide ((v5 : Int) < v4) then
  (ix v3 v5).bind fun x7 =>
  (bif decide ((x7.id : Int) ≤ v2) then kr (6, ())
  else
  (q43z n (x7.labels, ())).bind fun (y8, _) =>
  (q47z n (x7.props, ())).bind fun (y9, _) =>
  (q36z n (([y8, y9] : List Int), ())).bind fun (y10, _) =>
  (bif (y10 : Int) != 0 then kr (y10, ())
  else rec (x7.id, v3, v4, IntKind.wrap .i64 (v5 + 1), ((Ev.Graph.mk o6.1.nodes o6.1.edges o6.1.next), ()), ())))
  else kx (v2, ((Ev.Graph.mk o6.1.nodes o6.1.edges o6.1.next), ()), ()))

noncomputable def q46z_s2 {ρ : Type} (n : Nat) (rec : Int × Int × (List Ev.Edg) × Int × Int × (Ev.Graph × Unit) × Unit → Option ρ) (kx : Int × Int × (Ev.Graph × Unit) × Unit → Option ρ) (kr : Int × Unit → Option ρ) : Int × Int × (List Ev.Edg) × Int × Int × (Ev.Graph × Unit) × Unit → Option ρ :=
  fun (v14, v15, v16, v17, v18, o19, _) =>
  (bif decide ((v18 : Int) < v17) then
  (ix v16 v18).bind fun x20 =>
  (bif decide ((x20.id : Int) ≤ v14) then kr (6, ())
  else
  (q53z n ((Ev.Graph.mk o19.1.nodes o19.1.edges o19.1.next), x20.id, ())).bind fun (y21, _) =>
  (bif decide ((y21 : Int) ≥ 0) then kr (6, ())
  else
  (q54z n (x20.type, ())).bind fun (y22, _) =>
  (bif !y22 then kr (6, ())
  else
  (q53z n ((Ev.Graph.mk o19.1.nodes o19.1.edges o19.1.next), x20.src, ())).bind fun (y23, _) =>
  (bif decide ((y23 : Int) < 0) then kr (5, ())
  else
  (q53z n ((Ev.Graph.mk o19.1.nodes o19.1.edges o19.1.next), x20.dst, ())).bind fun (y24, _) =>
  (bif decide ((y24 : Int) < 0) then kr (5, ())
  else
  (q47z n (x20.props, ())).bind fun (y25, _) =>
  (bif (y25 : Int) != 0 then kr (y25, ())
  else rec (x20.id, v15, v16, v17, IntKind.wrap .i64 (v18 + 1), ((Ev.Graph.mk o19.1.nodes o19.1.edges o19.1.next), ()), ())))))))
  else kx (v14, v15, ((Ev.Graph.mk o19.1.nodes o19.1.edges o19.1.next), ()), ()))

noncomputable def F_q46z_s0 {ρ : Type} (n : Nat) (kr : Int × Unit → Option ρ) : Int → Ev.Node → (Int × (Ev.Graph × Unit) × Unit) → ((Int × (Ev.Graph × Unit) × Unit) → Option ρ) → Option ρ :=
  fun v5 x7 (v2, o6, _) rec =>
  (bif decide ((x7.id : Int) ≤ v2) then kr (6, ())
  else
  (q43z n (x7.labels, ())).bind fun (y8, _) =>
  (q47z n (x7.props, ())).bind fun (y9, _) =>
  (q36z n (([y8, y9] : List Int), ())).bind fun (y10, _) =>
  (bif (y10 : Int) != 0 then kr (y10, ())
  else rec (x7.id, ((Ev.Graph.mk o6.1.nodes o6.1.edges o6.1.next), ()), ())))

theorem R_q46z_s0 {ρ : Type} (n : Nat) (kx : Int × (Ev.Graph × Unit) × Unit → Option ρ) (kr : Int × Unit → Option ρ) (l : List Ev.Node) (fuel : Nat) (v2 : Int) (o6 : Ev.Graph × Unit) (hl : l.length ≤ 9223372036854775807) (hf : l.length < fuel) :
    iterN (fun rc => q46z_s0 n rc kx kr) fuel (v2, l, (l.length : Int), 0, o6, ()) = foldK (F_q46z_s0 n kr) (fun (v2, o6, _) => kx (v2, ((Ev.Graph.mk o6.1.nodes o6.1.edges o6.1.next), ()), ())) 0 l (v2, o6, ()) :=
  range_listM l (fun i (v2, o6, _) => (v2, l, (l.length : Int), i, o6, ())) _ _ _ (fun rec i s => rfl) hl fuel (v2, o6, ()) hf

noncomputable def F_q46z_s2 {ρ : Type} (n : Nat) (kr : Int × Unit → Option ρ) : Int → Ev.Edg → (Int × Int × (Ev.Graph × Unit) × Unit) → ((Int × Int × (Ev.Graph × Unit) × Unit) → Option ρ) → Option ρ :=
  fun v18 x20 (v14, v15, o19, _) rec =>
  (bif decide ((x20.id : Int) ≤ v14) then kr (6, ())
  else
  (q53z n ((Ev.Graph.mk o19.1.nodes o19.1.edges o19.1.next), x20.id, ())).bind fun (y21, _) =>
  (bif decide ((y21 : Int) ≥ 0) then kr (6, ())
  else
  (q54z n (x20.type, ())).bind fun (y22, _) =>
  (bif !y22 then kr (6, ())
  else
  (q53z n ((Ev.Graph.mk o19.1.nodes o19.1.edges o19.1.next), x20.src, ())).bind fun (y23, _) =>
  (bif decide ((y23 : Int) < 0) then kr (5, ())
  else
  (q53z n ((Ev.Graph.mk o19.1.nodes o19.1.edges o19.1.next), x20.dst, ())).bind fun (y24, _) =>
  (bif decide ((y24 : Int) < 0) then kr (5, ())
  else
  (q47z n (x20.props, ())).bind fun (y25, _) =>
  (bif (y25 : Int) != 0 then kr (y25, ())
  else rec (x20.id, v15, ((Ev.Graph.mk o19.1.nodes o19.1.edges o19.1.next), ()), ())))))))

theorem R_q46z_s2 {ρ : Type} (n : Nat) (kx : Int × Int × (Ev.Graph × Unit) × Unit → Option ρ) (kr : Int × Unit → Option ρ) (l : List Ev.Edg) (fuel : Nat) (v14 : Int) (v15 : Int) (o19 : Ev.Graph × Unit) (hl : l.length ≤ 9223372036854775807) (hf : l.length < fuel) :
    iterN (fun rc => q46z_s2 n rc kx kr) fuel (v14, v15, l, (l.length : Int), 0, o19, ()) = foldK (F_q46z_s2 n kr) (fun (v14, v15, o19, _) => kx (v14, v15, ((Ev.Graph.mk o19.1.nodes o19.1.edges o19.1.next), ()), ())) 0 l (v14, v15, o19, ()) :=
  range_listM l (fun i (v14, v15, o19, _) => (v14, v15, l, (l.length : Int), i, o19, ())) _ _ _ (fun rec i s => rfl) hl fuel (v14, v15, o19, ()) hf

noncomputable def q46z (n : Nat) : Ev.Graph × Unit → Option (Int × Unit) :=
  fun (a1, _) =>
  (bif (decide (((a1.nodes.length : Int) : Int) > 40)) || (decide (((a1.edges.length : Int) : Int) > 60)) then some (2, ())
  else
  iterN (fun rc31 => q46z_s0 n rc31 (fun (v11, o12, _) =>
  iterN (fun rc30 => q46z_s2 n rc30 (fun (v26, v27, o28, _) =>
  (bif (decide ((o28.1.next : Int) ≤ (if v26 > v27 then v26 else v27))) || (decide ((o28.1.next : Int) > 1099511627776)) then some (9, ())
  else some (0, ()))) (fun (v29, _) => some (v29, ()))) (n) (0, v11, o12.1.edges, (o12.1.edges.length : Int), 0, ((Ev.Graph.mk o12.1.nodes o12.1.edges o12.1.next), ()), ())) (fun (v13, _) => some (v13, ()))) (n) (0, a1.nodes, (a1.nodes.length : Int), 0, ((Ev.Graph.mk a1.nodes a1.edges a1.next), ()), ()))

noncomputable def q6z : ByteArray × Unit × (List Int) × Unit → Option (Int × Unit × (List Int) × Unit) :=
  fun (a1, o2, o3, _) =>
  (copyCheckN ((()), o3, ())).bind fun (o4, o5, _) =>
  ck (room (o5 ++ (bytesI a1)).length 1) (some ((a1.size : Int), (()), o5 ++ (bytesI a1), ()))

noncomputable def q44z_s0 {ρ : Type} (n : Nat) (rec : (List ByteArray) × Int × Int × Unit × (List Int) × Unit → Option ρ) (kx : Unit × (List Int) × Unit → Option ρ) (kr : Unit → Option ρ) : (List ByteArray) × Int × Int × Unit × (List Int) × Unit → Option ρ :=
  fun (v4, v5, v6, o7, o8, _) =>
  (bif decide ((v6 : Int) < v5) then
  (ix v4 v6).bind fun x9 =>
  (q6z (x9, (()), o8, ())).bind fun (y10, o11, o12, _) => rec (v4, v5, IntKind.wrap .i64 (v6 + 1), (()), o12, ())
  else kx ((()), o8, ()))

noncomputable def F_q44z_s0 {ρ : Type} (n : Nat) (kr : Unit → Option ρ) : Int → ByteArray → (Unit × (List Int) × Unit) → ((Unit × (List Int) × Unit) → Option ρ) → Option ρ :=
  fun v6 x9 (o7, o8, _) rec =>
  (q6z (x9, (()), o8, ())).bind fun (y10, o11, o12, _) => rec ((()), o12, ())

theorem R_q44z_s0 {ρ : Type} (n : Nat) (kx : Unit × (List Int) × Unit → Option ρ) (kr : Unit → Option ρ) (l : List ByteArray) (fuel : Nat) (o7 : Unit) (o8 : List Int) (hl : l.length ≤ 9223372036854775807) (hf : l.length < fuel) :
    iterN (fun rc => q44z_s0 n rc kx kr) fuel (l, (l.length : Int), 0, o7, o8, ()) = foldK (F_q44z_s0 n kr) (fun (o7, o8, _) => kx ((()), o8, ())) 0 l (o7, o8, ()) :=
  range_listM l (fun i (o7, o8, _) => (l, (l.length : Int), i, o7, o8, ())) _ _ _ (fun rec i s => rfl) hl fuel (o7, o8, ()) hf

noncomputable def q44z (n : Nat) : (List ByteArray) × Unit × (List Int) × Unit → Option (Unit × (List Int) × Unit) :=
  fun (a1, o2, o3, _) =>
  iterN (fun rc15 => q44z_s0 n rc15 (fun (o13, o14, _) => some ((()), o14, ())) (fun (_) => none)) (n) (a1, (a1.length : Int), 0, (()), o3, ())

noncomputable def q7z : Bool × Unit → Option (ByteArray × Unit) :=
  fun (a1, _) =>
  (bif a1 then some ((⟨#[116, 114, 117, 101]⟩ : ByteArray), ())
  else some ((⟨#[102, 97, 108, 115, 101]⟩ : ByteArray), ()))

noncomputable def q32z : Bool × Unit → Option (ByteArray × Unit) :=
  fun (a1, _) =>
  (q7z (a1, ())).bind fun (y2, _) => some (y2, ())

noncomputable def q8z : Int × Unit × (List Int) × Unit → Option (Unit × (List Int) × Unit) :=
  fun (a1, o2, o3, _) =>
  (copyCheckN ((()), o3, ())).bind fun (o4, o5, _) =>
  ck (room (o5 ++ ([a1] : List Int)).length 1) (some ((()), o5 ++ ([a1] : List Int), ()))

noncomputable def q4z : Int × (List Int) × Unit → Option ((List Int) × Unit) :=
  fun (a1, o2, _) =>
  (bif decide ((IntKind.wrap .u32 (a1) : Int) ≤ 2047) then
  ck (room (o2 ++ ([bor .u8 192 (IntKind.wrap .u8 (bshr .i32 a1 6)), bor .u8 128 (band .u8 (IntKind.wrap .u8 (a1)) 63)] : List Int)).length 1) (some (o2 ++ ([bor .u8 192 (IntKind.wrap .u8 (bshr .i32 a1 6)), bor .u8 128 (band .u8 (IntKind.wrap .u8 (a1)) 63)] : List Int), ()))
  else
  (bif decide ((IntKind.wrap .u32 (a1) : Int) < 55296) then
  (bif decide ((IntKind.wrap .u32 (a1) : Int) < 55296) then
  ck (room (o2 ++ ([bor .u8 224 (IntKind.wrap .u8 (bshr .i32 a1 12)), bor .u8 128 (band .u8 (IntKind.wrap .u8 (bshr .i32 a1 6)) 63), bor .u8 128 (band .u8 (IntKind.wrap .u8 (a1)) 63)] : List Int)).length 1) (some (o2 ++ ([bor .u8 224 (IntKind.wrap .u8 (bshr .i32 a1 12)), bor .u8 128 (band .u8 (IntKind.wrap .u8 (bshr .i32 a1 6)) 63), bor .u8 128 (band .u8 (IntKind.wrap .u8 (a1)) 63)] : List Int), ()))
  else
  (bif (decide ((IntKind.wrap .u32 (a1) : Int) > 65535)) && (decide ((IntKind.wrap .u32 (a1) : Int) ≤ 1114111)) then
  ck (room (o2 ++ ([bor .u8 240 (IntKind.wrap .u8 (bshr .i32 a1 18)), bor .u8 128 (band .u8 (IntKind.wrap .u8 (bshr .i32 a1 12)) 63), bor .u8 128 (band .u8 (IntKind.wrap .u8 (bshr .i32 a1 6)) 63), bor .u8 128 (band .u8 (IntKind.wrap .u8 (a1)) 63)] : List Int)).length 1) (some (o2 ++ ([bor .u8 240 (IntKind.wrap .u8 (bshr .i32 a1 18)), bor .u8 128 (band .u8 (IntKind.wrap .u8 (bshr .i32 a1 12)) 63), bor .u8 128 (band .u8 (IntKind.wrap .u8 (bshr .i32 a1 6)) 63), bor .u8 128 (band .u8 (IntKind.wrap .u8 (a1)) 63)] : List Int), ()))
  else
  ck (room (o2 ++ ([239, 191, 189] : List Int)).length 1) (some (o2 ++ ([239, 191, 189] : List Int), ()))))
  else
  (bif (decide ((57343 : Int) < (IntKind.wrap .u32 (a1)))) && (decide ((IntKind.wrap .u32 (a1) : Int) ≤ 65535)) then
  ck (room (o2 ++ ([bor .u8 224 (IntKind.wrap .u8 (bshr .i32 a1 12)), bor .u8 128 (band .u8 (IntKind.wrap .u8 (bshr .i32 a1 6)) 63), bor .u8 128 (band .u8 (IntKind.wrap .u8 (a1)) 63)] : List Int)).length 1) (some (o2 ++ ([bor .u8 224 (IntKind.wrap .u8 (bshr .i32 a1 12)), bor .u8 128 (band .u8 (IntKind.wrap .u8 (bshr .i32 a1 6)) 63), bor .u8 128 (band .u8 (IntKind.wrap .u8 (a1)) 63)] : List Int), ()))
  else
  (bif (decide ((IntKind.wrap .u32 (a1) : Int) > 65535)) && (decide ((IntKind.wrap .u32 (a1) : Int) ≤ 1114111)) then
  ck (room (o2 ++ ([bor .u8 240 (IntKind.wrap .u8 (bshr .i32 a1 18)), bor .u8 128 (band .u8 (IntKind.wrap .u8 (bshr .i32 a1 12)) 63), bor .u8 128 (band .u8 (IntKind.wrap .u8 (bshr .i32 a1 6)) 63), bor .u8 128 (band .u8 (IntKind.wrap .u8 (a1)) 63)] : List Int)).length 1) (some (o2 ++ ([bor .u8 240 (IntKind.wrap .u8 (bshr .i32 a1 18)), bor .u8 128 (band .u8 (IntKind.wrap .u8 (bshr .i32 a1 12)) 63), bor .u8 128 (band .u8 (IntKind.wrap .u8 (bshr .i32 a1 6)) 63), bor .u8 128 (band .u8 (IntKind.wrap .u8 (a1)) 63)] : List Int), ()))
  else
  ck (room (o2 ++ ([239, 191, 189] : List Int)).length 1) (some (o2 ++ ([239, 191, 189] : List Int), ()))))))

noncomputable def q14z : Int × (List Int) × Unit → Option ((List Int) × Unit) :=
  fun (a1, o2, _) =>
  (bif decide ((IntKind.wrap .u32 (a1) : Int) ≤ 127) then
  ck (room (o2 ++ ([IntKind.wrap .u8 (a1)] : List Int)).length 1) (some (o2 ++ ([IntKind.wrap .u8 (a1)] : List Int), ()))
  else
  (q4z (a1, o2, ())).bind fun (o3, _) => some (o3, ()))

noncomputable def q9z : Int × Unit × (List Int) × Unit → Option (Int × Unit × (List Int) × Unit) :=
  fun (a1, o2, o3, _) =>
  (copyCheckN ((()), o3, ())).bind fun (o4, o5, _) =>
  (q14z (a1, o5, ())).bind fun (o6, _) => some (IntKind.wrap .i64 ((o6.length : Int) - (o5.length : Int)), (()), o6, ())

noncomputable def q59z_s1 {ρ : Type} (self_q59z : Ev.Val × Unit × (List Int) × Unit → Option (Unit × (List Int) × Unit)) (n : Nat) (rec : (ByteArray × Nat) × Unit × (List Int) × Unit → Option ρ) (kx : Unit × (List Int) × Unit → Option ρ) (kr : Unit → Option ρ) : (ByteArray × Nat) × Unit × (List Int) × Unit → Option ρ :=
  fun (o17, o18, o19, _) =>
  (bif Nat.blt o17.2 o17.1.size then
  (bif (((Utf8.decode o17.1 o17.2).1 : Int) : Int) == 39 then
  (bif (((Utf8.decode o17.1 o17.2).1 : Int) : Int) == 39 then
  (q8z (92, (()), o19, ())).bind fun (o20, o21, _) =>
  (q9z (((Utf8.decode o17.1 o17.2).1 : Int), (()), o21, ())).bind fun (y22, o23, o24, _) => rec ((o17.1, o17.2 + (Utf8.decode o17.1 o17.2).2), (()), o24, ())
  else
  (bif (((Utf8.decode o17.1 o17.2).1 : Int) : Int) == 10 then
  (q8z (92, (()), o19, ())).bind fun (o25, o26, _) =>
  (q9z (110, (()), o26, ())).bind fun (y27, o28, o29, _) => rec ((o17.1, o17.2 + (Utf8.decode o17.1 o17.2).2), (()), o29, ())
  else
  (q9z (((Utf8.decode o17.1 o17.2).1 : Int), (()), o19, ())).bind fun (y30, o31, o32, _) => rec ((o17.1, o17.2 + (Utf8.decode o17.1 o17.2).2), (()), o32, ())))
  else
  (bif (((Utf8.decode o17.1 o17.2).1 : Int) : Int) == 92 then
  (q8z (92, (()), o19, ())).bind fun (o33, o34, _) =>
  (q9z (((Utf8.decode o17.1 o17.2).1 : Int), (()), o34, ())).bind fun (y35, o36, o37, _) => rec ((o17.1, o17.2 + (Utf8.decode o17.1 o17.2).2), (()), o37, ())
  else
  (bif (((Utf8.decode o17.1 o17.2).1 : Int) : Int) == 10 then
  (q8z (92, (()), o19, ())).bind fun (o38, o39, _) =>
  (q9z (110, (()), o39, ())).bind fun (y40, o41, o42, _) => rec ((o17.1, o17.2 + (Utf8.decode o17.1 o17.2).2), (()), o42, ())
  else
  (q9z (((Utf8.decode o17.1 o17.2).1 : Int), (()), o19, ())).bind fun (y43, o44, o45, _) => rec ((o17.1, o17.2 + (Utf8.decode o17.1 o17.2).2), (()), o45, ()))))
  else kx ((()), o19, ()))

noncomputable def q59z_s4 {ρ : Type} (self_q59z : Ev.Val × Unit × (List Int) × Unit → Option (Unit × (List Int) × Unit)) (n : Nat) (rec : (List Ev.Val) × Int × Int × Unit × (List Int) × Unit → Option ρ) (kx : Unit × (List Int) × Unit → Option ρ) (kr : Unit → Option ρ) : (List Ev.Val) × Int × Int × Unit × (List Int) × Unit → Option ρ :=
  fun (v53, v54, v55, o56, o57, _) =>
  (bif decide ((v55 : Int) < v54) then
  (ix v53 v55).bind fun x58 =>
  (bif decide ((v55 : Int) > 0) then
  (q8z (44, (()), o57, ())).bind fun (o59, o60, _) =>
  (self_q59z ((Ev.Val.mk x58.kind x58.n x58.s x58.l), (()), o60, ())).bind fun (o61, o62, _) => rec (v53, v54, IntKind.wrap .i64 (v55 + 1), (()), o62, ())
  else
  (self_q59z ((Ev.Val.mk x58.kind x58.n x58.s x58.l), (()), o57, ())).bind fun (o63, o64, _) => rec (v53, v54, IntKind.wrap .i64 (v55 + 1), (()), o64, ()))
  else kx ((()), o57, ()))

noncomputable def F_q59z_s4 {ρ : Type} (self_q59z : Ev.Val × Unit × (List Int) × Unit → Option (Unit × (List Int) × Unit)) (n : Nat) (kr : Unit → Option ρ) : Int → Ev.Val → (Unit × (List Int) × Unit) → ((Unit × (List Int) × Unit) → Option ρ) → Option ρ :=
  fun v55 x58 (o56, o57, _) rec =>
  (bif decide ((v55 : Int) > 0) then
  (q8z (44, (()), o57, ())).bind fun (o59, o60, _) =>
  (self_q59z ((Ev.Val.mk x58.kind x58.n x58.s x58.l), (()), o60, ())).bind fun (o61, o62, _) => rec ((()), o62, ())
  else
  (self_q59z ((Ev.Val.mk x58.kind x58.n x58.s x58.l), (()), o57, ())).bind fun (o63, o64, _) => rec ((()), o64, ()))

theorem R_q59z_s4 {ρ : Type} (self_q59z : Ev.Val × Unit × (List Int) × Unit → Option (Unit × (List Int) × Unit)) (n : Nat) (kx : Unit × (List Int) × Unit → Option ρ) (kr : Unit → Option ρ) (l : List Ev.Val) (fuel : Nat) (o56 : Unit) (o57 : List Int) (hl : l.length ≤ 9223372036854775807) (hf : l.length < fuel) :
    iterN (fun rc => q59z_s4 self_q59z n rc kx kr) fuel (l, (l.length : Int), 0, o56, o57, ()) = foldK (F_q59z_s4 self_q59z n kr) (fun (o56, o57, _) => kx ((()), o57, ())) 0 l (o56, o57, ()) :=
  range_listM l (fun i (o56, o57, _) => (l, (l.length : Int), i, o56, o57, ())) _ _ _ (fun rec i s => rfl) hl fuel (o56, o57, ()) hf

noncomputable def q59z_b (self_q59z : Ev.Val × Unit × (List Int) × Unit → Option (Unit × (List Int) × Unit)) (n : Nat) : Ev.Val × Unit × (List Int) × Unit → Option (Unit × (List Int) × Unit) :=
  fun (a1, o2, o3, _) =>
  (bif (a1.kind : Int) == 0 then
  (q6z ((⟨#[110, 117, 108, 108]⟩ : ByteArray), (()), o3, ())).bind fun (y4, o5, o6, _) => some ((()), o6, ())
  else
  (bif (a1.kind : Int) == 1 then
  (q32z ((a1.n : Int) == 1, ())).bind fun (y7, _) =>
  (q6z (y7, (()), o3, ())).bind fun (y8, o9, o10, _) => some ((()), o10, ())
  else
  (bif (a1.kind : Int) == 2 then
  (itoaN (a1.n, ())).bind fun (y11, _) =>
  (q6z (y11, (()), o3, ())).bind fun (y12, o13, o14, _) => some ((()), o14, ())
  else
  (bif (a1.kind : Int) == 3 then
  (q8z (39, (()), o3, ())).bind fun (o15, o16, _) =>
  iterN (fun rc50 => q59z_s1 self_q59z n rc50 (fun (o46, o47, _) =>
  (q8z (39, (()), o47, ())).bind fun (o48, o49, _) => some ((()), o49, ())) (fun (_) => none)) (n) ((a1.s, 0), (()), o16, ())
  else
  (bif (a1.kind : Int) == 4 then
  (q8z (91, (()), o3, ())).bind fun (o51, o52, _) =>
  iterN (fun rc69 => q59z_s4 self_q59z n rc69 (fun (o65, o66, _) =>
  (q8z (93, (()), o66, ())).bind fun (o67, o68, _) => some ((()), o68, ())) (fun (_) => none)) (n) (a1.l, (a1.l.length : Int), 0, (()), o52, ())
  else some ((()), o3, ()))))))

noncomputable def q59z : Nat → Ev.Val × Unit × (List Int) × Unit → Option (Unit × (List Int) × Unit)
  | 0, _ => none
  | n + 1, x => q59z_b (q59z n) n x

noncomputable def q25z : Unit × (List Int) × Unit → Option (Int × Unit × (List Int) × Unit) :=
  fun (o1, o2, _) => some ((o2.length : Int), (()), o2, ())

noncomputable def q50z (n : Nat) : Ev.Val × Unit → Option (ByteArray × Int × Unit) :=
  fun (a1, _) =>
  (q48z n ((Ev.Val.mk a1.kind a1.n a1.s a1.l), ())).bind fun (y2, _) =>
  (bif (y2 : Int) != 0 then some ((⟨#[]⟩ : ByteArray), y2, ())
  else
  (q59z n ((Ev.Val.mk a1.kind a1.n a1.s a1.l), (()), ([] : List Int), ())).bind fun (o3, o4, _) =>
  (q25z ((()), o4, ())).bind fun (y5, o6, o7, _) =>
  (bif decide ((y5 : Int) > 4000) then some ((⟨#[]⟩ : ByteArray), 2, ())
  else
  (stringN ((()), o7, ())).bind fun (y8, _) => some (y8, 0, ())))

noncomputable def q45z_s0 {ρ : Type} (n : Nat) (rec : (List Ev.Prp) × Int × Int × (Bool × Unit) × Unit × Unit × (List Int) × Unit → Option ρ) (kx : (Bool × Unit) × Unit × Unit × (List Int) × Unit → Option ρ) (kr : Unit → Option ρ) : (List Ev.Prp) × Int × Int × (Bool × Unit) × Unit × Unit × (List Int) × Unit → Option ρ :=
  fun (v6, v7, v8, o9, o10, o11, o12, _) =>
  (bif decide ((v8 : Int) < v7) then
  (ix v6 v8).bind fun x13 =>
  (q50z n ((Ev.Val.mk x13.val.kind x13.val.n x13.val.s x13.val.l), ())).bind fun (y14, y15, _) =>
  (bif (y15 : Int) != 0 then
  (q44z n (([(⟨#[32]⟩ : ByteArray), x13.name, (⟨#[61]⟩ : ByteArray), y14] : List ByteArray), (()), o12, ())).bind fun (o16, o17, _) => rec (v6, v7, IntKind.wrap .i64 (v8 + 1), (true, ()), (()), (()), o17, ())
  else
  (q44z n (([(⟨#[32]⟩ : ByteArray), x13.name, (⟨#[61]⟩ : ByteArray), y14] : List ByteArray), (()), o12, ())).bind fun (o18, o19, _) => rec (v6, v7, IntKind.wrap .i64 (v8 + 1), (o9.1, ()), (()), (()), o19, ()))
  else kx ((o9.1, ()), (()), (()), o12, ()))

noncomputable def F_q45z_s0 {ρ : Type} (n : Nat) (kr : Unit → Option ρ) : Int → Ev.Prp → ((Bool × Unit) × Unit × Unit × (List Int) × Unit) → (((Bool × Unit) × Unit × Unit × (List Int) × Unit) → Option ρ) → Option ρ :=
  fun v8 x13 (o9, o10, o11, o12, _) rec =>
  (q50z n ((Ev.Val.mk x13.val.kind x13.val.n x13.val.s x13.val.l), ())).bind fun (y14, y15, _) =>
  (bif (y15 : Int) != 0 then
  (q44z n (([(⟨#[32]⟩ : ByteArray), x13.name, (⟨#[61]⟩ : ByteArray), y14] : List ByteArray), (()), o12, ())).bind fun (o16, o17, _) => rec ((true, ()), (()), (()), o17, ())
  else
  (q44z n (([(⟨#[32]⟩ : ByteArray), x13.name, (⟨#[61]⟩ : ByteArray), y14] : List ByteArray), (()), o12, ())).bind fun (o18, o19, _) => rec ((o9.1, ()), (()), (()), o19, ()))

theorem R_q45z_s0 {ρ : Type} (n : Nat) (kx : (Bool × Unit) × Unit × Unit × (List Int) × Unit → Option ρ) (kr : Unit → Option ρ) (l : List Ev.Prp) (fuel : Nat) (o9 : Bool × Unit) (o10 : Unit) (o11 : Unit) (o12 : List Int) (hl : l.length ≤ 9223372036854775807) (hf : l.length < fuel) :
    iterN (fun rc => q45z_s0 n rc kx kr) fuel (l, (l.length : Int), 0, o9, o10, o11, o12, ()) = foldK (F_q45z_s0 n kr) (fun (o9, o10, o11, o12, _) => kx ((o9.1, ()), (()), (()), o12, ())) 0 l (o9, o10, o11, o12, ()) :=
  range_listM l (fun i (o9, o10, o11, o12, _) => (l, (l.length : Int), i, o9, o10, o11, o12, ())) _ _ _ (fun rec i s => rfl) hl fuel (o9, o10, o11, o12, ()) hf

noncomputable def q45z (n : Nat) : (List Ev.Prp) × (Bool × Unit) × Unit × Unit × (List Int) × Unit → Option ((Bool × Unit) × Unit × Unit × (List Int) × Unit) :=
  fun (a1, o2, o3, o4, o5, _) =>
  iterN (fun rc26 => q45z_s0 n rc26 (fun (o20, o21, o22, o23, _) =>
  (q44z n (([(⟨#[10]⟩ : ByteArray)] : List ByteArray), (()), o23, ())).bind fun (o24, o25, _) => some ((o20.1, ()), (()), (()), o25, ())) (fun (_) => none)) (n) (a1, (a1.length : Int), 0, (o2.1, ()), (()), (()), o5, ())

noncomputable def q56z_s2 {ρ : Type} (n : Nat) (rec : (List Ev.Node) × Int × Int × (List ByteArray) × Int × Int × (Ev.Graph × Unit) × Unit × (Bool × Unit) × Unit × (Ev.Node × Unit) × (List Int) × Unit → Option ρ) (kx : (List Ev.Node) × Int × Int × (Ev.Graph × Unit) × Unit × (Bool × Unit) × Unit × (Ev.Node × Unit) × (List Int) × Unit → Option ρ) (kr : Unit → Option ρ) : (List Ev.Node) × Int × Int × (List ByteArray) × Int × Int × (Ev.Graph × Unit) × Unit × (Bool × Unit) × Unit × (Ev.Node × Unit) × (List Int) × Unit → Option ρ :=
  fun (v18, v19, v20, v21, v22, v23, o24, o25, o26, o27, o28, o29, _) =>
  (bif decide ((v23 : Int) < v22) then
  (ix v21 v23).bind fun x30 =>
  (q44z n (([(⟨#[32, 58]⟩ : ByteArray), x30] : List ByteArray), (()), o29, ())).bind fun (o31, o32, _) => rec (v18, v19, v20, v21, v22, IntKind.wrap .i64 (v23 + 1), ((Ev.Graph.mk o24.1.nodes o24.1.edges o24.1.next), ()), (()), (o26.1, ()), (()), ((Ev.Node.mk o28.1.id o28.1.labels o28.1.props), ()), o32, ())
  else kx (v18, v19, v20, ((Ev.Graph.mk o24.1.nodes o24.1.edges o24.1.next), ()), (()), (o26.1, ()), (()), ((Ev.Node.mk o28.1.id o28.1.labels o28.1.props), ()), o29, ()))

noncomputable def q56z_s0 {ρ : Type} (n : Nat) (rec : (List Ev.Node) × Int × Int × (Ev.Graph × Unit) × Unit × (Bool × Unit) × Unit × (List Int) × Unit → Option ρ) (kx : (Ev.Graph × Unit) × Unit × (Bool × Unit) × Unit × (List Int) × Unit → Option ρ) (kr : Unit → Option ρ) : (List Ev.Node) × Int × Int × (Ev.Graph × Unit) × Unit × (Bool × Unit) × Unit × (List Int) × Unit → Option ρ :=
  fun (v6, v7, v8, o9, o10, o11, o12, o13, _) =>
  (bif decide ((v8 : Int) < v7) then
  (ix v6 v8).bind fun x14 =>
  (itoaN (x14.id, ())).bind fun (y15, _) =>
  (q44z n (([(⟨#[110, 111, 100, 101, 32]⟩ : ByteArray), y15] : List ByteArray), (()), o13, ())).bind fun (o16, o17, _) =>
  iterN (fun rc46 => q56z_s2 n rc46 (fun (v33, v34, v35, o36, o37, o38, o39, o40, o41, _) =>
  (q45z n (o40.1.props, (o38.1, ()), (()), (()), o41, ())).bind fun (o42, o43, o44, o45, _) => rec (v33, v34, IntKind.wrap .i64 (v35 + 1), ((Ev.Graph.mk o36.1.nodes o36.1.edges o36.1.next), ()), (()), (o42.1, ()), (()), o45, ())) (fun (_) => none)) (n) (v6, v7, v8, x14.labels, (x14.labels.length : Int), 0, ((Ev.Graph.mk o9.1.nodes o9.1.edges o9.1.next), ()), (()), (o11.1, ()), (()), ((Ev.Node.mk x14.id x14.labels x14.props), ()), o17, ())
  else kx (((Ev.Graph.mk o9.1.nodes o9.1.edges o9.1.next), ()), (()), (o11.1, ()), (()), o13, ()))

noncomputable def q56z_s4 {ρ : Type} (n : Nat) (rec : (List Ev.Edg) × Int × Int × Unit × (Bool × Unit) × Unit × (List Int) × Unit → Option ρ) (kx : Unit × (Bool × Unit) × (List Int) × Unit → Option ρ) (kr : Unit → Option ρ) : (List Ev.Edg) × Int × Int × Unit × (Bool × Unit) × Unit × (List Int) × Unit → Option ρ :=
  fun (v52, v53, v54, o55, o56, o57, o58, _) =>
  (bif decide ((v54 : Int) < v53) then
  (ix v52 v54).bind fun x59 =>
  (itoaN (x59.id, ())).bind fun (y60, _) =>
  (itoaN (x59.src, ())).bind fun (y61, _) =>
  (itoaN (x59.dst, ())).bind fun (y62, _) =>
  (q44z n (([(⟨#[101, 100, 103, 101, 32]⟩ : ByteArray), y60, (⟨#[32]⟩ : ByteArray), y61, (⟨#[32]⟩ : ByteArray), y62, (⟨#[32, 58]⟩ : ByteArray), x59.type] : List ByteArray), (()), o58, ())).bind fun (o63, o64, _) =>
  (q45z n (x59.props, (o56.1, ()), (()), (()), o64, ())).bind fun (o65, o66, o67, o68, _) => rec (v52, v53, IntKind.wrap .i64 (v54 + 1), (()), (o65.1, ()), (()), o68, ())
  else kx ((()), (o56.1, ()), o58, ()))

noncomputable def F_q56z_s2 {ρ : Type} (n : Nat) (kr : Unit → Option ρ) : Int → ByteArray → ((List Ev.Node) × Int × Int × (Ev.Graph × Unit) × Unit × (Bool × Unit) × Unit × (Ev.Node × Unit) × (List Int) × Unit) → (((List Ev.Node) × Int × Int × (Ev.Graph × Unit) × Unit × (Bool × Unit) × Unit × (Ev.Node × Unit) × (List Int) × Unit) → Option ρ) → Option ρ :=
  fun v23 x30 (v18, v19, v20, o24, o25, o26, o27, o28, o29, _) rec =>
  (q44z n (([(⟨#[32, 58]⟩ : ByteArray), x30] : List ByteArray), (()), o29, ())).bind fun (o31, o32, _) => rec (v18, v19, v20, ((Ev.Graph.mk o24.1.nodes o24.1.edges o24.1.next), ()), (()), (o26.1, ()), (()), ((Ev.Node.mk o28.1.id o28.1.labels o28.1.props), ()), o32, ())

theorem R_q56z_s2 {ρ : Type} (n : Nat) (kx : (List Ev.Node) × Int × Int × (Ev.Graph × Unit) × Unit × (Bool × Unit) × Unit × (Ev.Node × Unit) × (List Int) × Unit → Option ρ) (kr : Unit → Option ρ) (l : List ByteArray) (fuel : Nat) (v18 : List Ev.Node) (v19 : Int) (v20 : Int) (o24 : Ev.Graph × Unit) (o25 : Unit) (o26 : Bool × Unit) (o27 : Unit) (o28 : Ev.Node × Unit) (o29 : List Int) (hl : l.length ≤ 9223372036854775807) (hf : l.length < fuel) :
    iterN (fun rc => q56z_s2 n rc kx kr) fuel (v18, v19, v20, l, (l.length : Int), 0, o24, o25, o26, o27, o28, o29, ()) = foldK (F_q56z_s2 n kr) (fun (v18, v19, v20, o24, o25, o26, o27, o28, o29, _) => kx (v18, v19, v20, ((Ev.Graph.mk o24.1.nodes o24.1.edges o24.1.next), ()), (()), (o26.1, ()), (()), ((Ev.Node.mk o28.1.id o28.1.labels o28.1.props), ()), o29, ())) 0 l (v18, v19, v20, o24, o25, o26, o27, o28, o29, ()) :=
  range_listM l (fun i (v18, v19, v20, o24, o25, o26, o27, o28, o29, _) => (v18, v19, v20, l, (l.length : Int), i, o24, o25, o26, o27, o28, o29, ())) _ _ _ (fun rec i s => rfl) hl fuel (v18, v19, v20, o24, o25, o26, o27, o28, o29, ()) hf

noncomputable def F_q56z_s4 {ρ : Type} (n : Nat) (kr : Unit → Option ρ) : Int → Ev.Edg → (Unit × (Bool × Unit) × Unit × (List Int) × Unit) → ((Unit × (Bool × Unit) × Unit × (List Int) × Unit) → Option ρ) → Option ρ :=
  fun v54 x59 (o55, o56, o57, o58, _) rec =>
  (itoaN (x59.id, ())).bind fun (y60, _) =>
  (itoaN (x59.src, ())).bind fun (y61, _) =>
  (itoaN (x59.dst, ())).bind fun (y62, _) =>
  (q44z n (([(⟨#[101, 100, 103, 101, 32]⟩ : ByteArray), y60, (⟨#[32]⟩ : ByteArray), y61, (⟨#[32]⟩ : ByteArray), y62, (⟨#[32, 58]⟩ : ByteArray), x59.type] : List ByteArray), (()), o58, ())).bind fun (o63, o64, _) =>
  (q45z n (x59.props, (o56.1, ()), (()), (()), o64, ())).bind fun (o65, o66, o67, o68, _) => rec ((()), (o65.1, ()), (()), o68, ())

theorem R_q56z_s4 {ρ : Type} (n : Nat) (kx : Unit × (Bool × Unit) × (List Int) × Unit → Option ρ) (kr : Unit → Option ρ) (l : List Ev.Edg) (fuel : Nat) (o55 : Unit) (o56 : Bool × Unit) (o57 : Unit) (o58 : List Int) (hl : l.length ≤ 9223372036854775807) (hf : l.length < fuel) :
    iterN (fun rc => q56z_s4 n rc kx kr) fuel (l, (l.length : Int), 0, o55, o56, o57, o58, ()) = foldK (F_q56z_s4 n kr) (fun (o55, o56, o57, o58, _) => kx ((()), (o56.1, ()), o58, ())) 0 l (o55, o56, o57, o58, ()) :=
  range_listM l (fun i (o55, o56, o57, o58, _) => (l, (l.length : Int), i, o55, o56, o57, o58, ())) _ _ _ (fun rec i s => rfl) hl fuel (o55, o56, o57, o58, ()) hf

noncomputable def q56z (n : Nat) : Ev.Graph × Unit → Option (ByteArray × Int × Unit) :=
  fun (a1, _) =>
  (q46z n ((Ev.Graph.mk a1.nodes a1.edges a1.next), ())).bind fun (y2, _) =>
  (bif (y2 : Int) != 0 then some ((⟨#[]⟩ : ByteArray), y2, ())
  else
  (itoaN (a1.next, ())).bind fun (y3, _) =>
  (q44z n (([(⟨#[110, 101, 120, 116, 32]⟩ : ByteArray), y3, (⟨#[10]⟩ : ByteArray)] : List ByteArray), (()), ([] : List Int), ())).bind fun (o4, o5, _) =>
  iterN (fun rc77 => q56z_s0 n rc77 (fun (o47, o48, o49, o50, o51, _) =>
  iterN (fun rc76 => q56z_s4 n rc76 (fun (o69, o70, o71, _) =>
  (bif o70.1 then some ((⟨#[]⟩ : ByteArray), 2, ())
  else
  (q25z ((()), o71, ())).bind fun (y72, o73, o74, _) =>
  (bif decide ((y72 : Int) > 40000) then some ((⟨#[]⟩ : ByteArray), 2, ())
  else
  (stringN ((()), o74, ())).bind fun (y75, _) => some (y75, 0, ())))) (fun (_) => none)) (n) (o47.1.edges, (o47.1.edges.length : Int), 0, (()), (o49.1, ()), (()), o51, ())) (fun (_) => none)) (n) (a1.nodes, (a1.nodes.length : Int), 0, ((Ev.Graph.mk a1.nodes a1.edges a1.next), ()), (()), (false, ()), (()), o5, ()))

noncomputable def q29z : ByteArray × Unit → Option (Bool × Unit) :=
  fun (a1, _) =>
  (bif (seq a1 (⟨#[]⟩ : ByteArray)) || (decide (((a1.size : Int) : Int) > 12)) then some (false, ())
  else
  (sat a1 0).bind fun c2 =>
  (bif decide ((c2 : Int) ≥ 48) then
  (sat a1 0).bind fun c3 =>
  (bif decide ((c3 : Int) ≤ 57) then some (false, ())
  else
  (trimN (a1, (⟨#[97, 98, 99, 100, 101, 102, 103, 104, 105, 106, 107, 108, 109, 110, 111, 112, 113, 114, 115, 116, 117, 118, 119, 120, 121, 122, 65, 66, 67, 68, 69, 70, 71, 72, 73, 74, 75, 76, 77, 78, 79, 80, 81, 82, 83, 84, 85, 86, 87, 88, 89, 90, 48, 49, 50, 51, 52, 53, 54, 55, 56, 57, 95]⟩ : ByteArray), ())).bind fun (y4, _) => some (seq y4 (⟨#[]⟩ : ByteArray), ()))
  else
  (trimN (a1, (⟨#[97, 98, 99, 100, 101, 102, 103, 104, 105, 106, 107, 108, 109, 110, 111, 112, 113, 114, 115, 116, 117, 118, 119, 120, 121, 122, 65, 66, 67, 68, 69, 70, 71, 72, 73, 74, 75, 76, 77, 78, 79, 80, 81, 82, 83, 84, 85, 86, 87, 88, 89, 90, 48, 49, 50, 51, 52, 53, 54, 55, 56, 57, 95]⟩ : ByteArray), ())).bind fun (y5, _) => some (seq y5 (⟨#[]⟩ : ByteArray), ())))

noncomputable def q11z_s0 {ρ : Type} (n : Nat) (rec : ByteArray × (List ByteArray) × Int × Int × Unit → Option ρ) (kx : Unit → Option ρ) (kr : Int × Unit → Option ρ) : ByteArray × (List ByteArray) × Int × Int × Unit → Option ρ :=
  fun (v2, v3, v4, v5, _) =>
  (bif decide ((v5 : Int) < v4) then
  (ix v3 v5).bind fun x6 =>
  (q29z (x6, ())).bind fun (y7, _) =>
  (bif (!y7) || (sless x6 v2 || seq x6 v2) then kr (6, ())
  else rec (x6, v3, v4, IntKind.wrap .i64 (v5 + 1), ()))
  else kx (()))

noncomputable def F_q11z_s0 {ρ : Type} (n : Nat) (kr : Int × Unit → Option ρ) : Int → ByteArray → (ByteArray × Unit) → ((ByteArray × Unit) → Option ρ) → Option ρ :=
  fun v5 x6 (v2, _) rec =>
  (q29z (x6, ())).bind fun (y7, _) =>
  (bif (!y7) || (sless x6 v2 || seq x6 v2) then kr (6, ())
  else rec (x6, ()))

theorem R_q11z_s0 {ρ : Type} (n : Nat) (kx : Unit → Option ρ) (kr : Int × Unit → Option ρ) (l : List ByteArray) (fuel : Nat) (v2 : ByteArray) (hl : l.length ≤ 9223372036854775807) (hf : l.length < fuel) :
    iterN (fun rc => q11z_s0 n rc kx kr) fuel (v2, l, (l.length : Int), 0, ()) = foldK (F_q11z_s0 n kr) (fun (v2, _) => kx (())) 0 l (v2, ()) :=
  range_listM l (fun i (v2, _) => (v2, l, (l.length : Int), i, ())) _ _ _ (fun rec i s => rfl) hl fuel (v2, ()) hf

noncomputable def q11z (n : Nat) : (List ByteArray) × Unit → Option (Int × Unit) :=
  fun (a1, _) =>
  (bif decide (((a1.length : Int) : Int) > 4) then some (2, ())
  else
  iterN (fun rc9 => q11z_s0 n rc9 (fun (_) => some (0, ())) (fun (v8, _) => some (v8, ()))) (n) ((⟨#[]⟩ : ByteArray), a1, (a1.length : Int), 0, ()))

noncomputable def q17z_s1 {ρ : Type} (self_q17z : Ev.Val × Int × Unit → Option (Int × Unit)) (n : Nat) (rec : Int × Bool × Bool × (List Ev.Val) × Int × Int × Unit → Option ρ) (kx : Bool × Bool × Unit → Option ρ) (kr : Int × Unit → Option ρ) : Int × Bool × Bool × (List Ev.Val) × Int × Int × Unit → Option ρ :=
  fun (v3, v4, v5, v6, v7, v8, _) =>
  (bif decide ((v8 : Int) < v7) then
  (ix v6 v8).bind fun x9 =>
  (self_q17z ((Ev.Val.mk x9.kind x9.n x9.s x9.l), IntKind.wrap .i64 (v3 + 1), ())).bind fun (y10, _) =>
  (bif (y10 : Int) != 0 then kr (y10, ())
  else rec (v3, v4, v5, v6, v7, IntKind.wrap .i64 (v8 + 1), ()))
  else kx (v4, v5, ()))

noncomputable def F_q17z_s1 {ρ : Type} (self_q17z : Ev.Val × Int × Unit → Option (Int × Unit)) (n : Nat) (kr : Int × Unit → Option ρ) : Int → Ev.Val → (Int × Bool × Bool × Unit) → ((Int × Bool × Bool × Unit) → Option ρ) → Option ρ :=
  fun v8 x9 (v3, v4, v5, _) rec =>
  (self_q17z ((Ev.Val.mk x9.kind x9.n x9.s x9.l), IntKind.wrap .i64 (v3 + 1), ())).bind fun (y10, _) =>
  (bif (y10 : Int) != 0 then kr (y10, ())
  else rec (v3, v4, v5, ()))

theorem R_q17z_s1 {ρ : Type} (self_q17z : Ev.Val × Int × Unit → Option (Int × Unit)) (n : Nat) (kx : Bool × Bool × Unit → Option ρ) (kr : Int × Unit → Option ρ) (l : List Ev.Val) (fuel : Nat) (v3 : Int) (v4 : Bool) (v5 : Bool) (hl : l.length ≤ 9223372036854775807) (hf : l.length < fuel) :
    iterN (fun rc => q17z_s1 self_q17z n rc kx kr) fuel (v3, v4, v5, l, (l.length : Int), 0, ()) = foldK (F_q17z_s1 self_q17z n kr) (fun (v3, v4, v5, _) => kx (v4, v5, ())) 0 l (v3, v4, v5, ()) :=
  range_listM l (fun i (v3, v4, v5, _) => (v3, v4, v5, l, (l.length : Int), i, ())) _ _ _ (fun rec i s => rfl) hl fuel (v3, v4, v5, ()) hf

noncomputable def q17z_b (self_q17z : Ev.Val × Int × Unit → Option (Int × Unit)) (n : Nat) : Ev.Val × Int × Unit → Option (Int × Unit) :=
  fun (a1, a2, _) =>
  (bif (a1.kind : Int) == 4 then
  (bif (decide (((a1.l.length : Int) : Int) > 30)) || (decide ((a2 : Int) > 6)) then some (2, ())
  else
  iterN (fun rc14 => q17z_s1 self_q17z n rc14 (fun (v11, v12, _) =>
  (bif v11 && v12 then some (0, ())
  else some (6, ()))) (fun (v13, _) => some (v13, ()))) (n) (a2, (a1.n : Int) == 0, seq a1.s (⟨#[]⟩ : ByteArray), a1.l, (a1.l.length : Int), 0, ()))
  else
  (bif (a1.kind : Int) == 3 then
  (bif decide (((a1.s.size : Int) : Int) > 4000) then some (2, ())
  else
  (bif ((a1.n : Int) == 0) && (((a1.l.length : Int) : Int) == 0) then
  (validN (a1.s, ())).bind fun (y15, _) =>
  (bif y15 then some (0, ())
  else some (6, ()))
  else some (6, ())))
  else
  (bif (a1.kind : Int) == 0 then
  (bif (((a1.n : Int) == 0) && (seq a1.s (⟨#[]⟩ : ByteArray))) && (((a1.l.length : Int) : Int) == 0) then some (0, ())
  else some (6, ()))
  else
  (bif (a1.kind : Int) == 1 then
  (bif ((((a1.n : Int) == 0) || ((a1.n : Int) == 1)) && (seq a1.s (⟨#[]⟩ : ByteArray))) && (((a1.l.length : Int) : Int) == 0) then some (0, ())
  else some (6, ()))
  else
  (bif (a1.kind : Int) == 2 then
  (bif (seq a1.s (⟨#[]⟩ : ByteArray)) && (((a1.l.length : Int) : Int) == 0) then some (0, ())
  else some (6, ()))
  else some (6, ()))))))

noncomputable def q17z : Nat → Ev.Val × Int × Unit → Option (Int × Unit)
  | 0, _ => none
  | n + 1, x => q17z_b (q17z n) n x

noncomputable def q16z_s0 {ρ : Type} (n : Nat) (rec : ByteArray × (List Ev.Prp) × Int × Int × Unit → Option ρ) (kx : Unit → Option ρ) (kr : Int × Unit → Option ρ) : ByteArray × (List Ev.Prp) × Int × Int × Unit → Option ρ :=
  fun (v2, v3, v4, v5, _) =>
  (bif decide ((v5 : Int) < v4) then
  (ix v3 v5).bind fun x6 =>
  (q29z (x6.name, ())).bind fun (y7, _) =>
  (bif ((!y7) || (sless x6.name v2 || seq x6.name v2)) || ((x6.val.kind : Int) == 0) then kr (6, ())
  else
  (q17z n ((Ev.Val.mk x6.val.kind x6.val.n x6.val.s x6.val.l), 1, ())).bind fun (y8, _) =>
  (bif (y8 : Int) != 0 then kr (y8, ())
  else rec (x6.name, v3, v4, IntKind.wrap .i64 (v5 + 1), ())))
  else kx (()))

noncomputable def F_q16z_s0 {ρ : Type} (n : Nat) (kr : Int × Unit → Option ρ) : Int → Ev.Prp → (ByteArray × Unit) → ((ByteArray × Unit) → Option ρ) → Option ρ :=
  fun v5 x6 (v2, _) rec =>
  (q29z (x6.name, ())).bind fun (y7, _) =>
  (bif ((!y7) || (sless x6.name v2 || seq x6.name v2)) || ((x6.val.kind : Int) == 0) then kr (6, ())
  else
  (q17z n ((Ev.Val.mk x6.val.kind x6.val.n x6.val.s x6.val.l), 1, ())).bind fun (y8, _) =>
  (bif (y8 : Int) != 0 then kr (y8, ())
  else rec (x6.name, ())))

theorem R_q16z_s0 {ρ : Type} (n : Nat) (kx : Unit → Option ρ) (kr : Int × Unit → Option ρ) (l : List Ev.Prp) (fuel : Nat) (v2 : ByteArray) (hl : l.length ≤ 9223372036854775807) (hf : l.length < fuel) :
    iterN (fun rc => q16z_s0 n rc kx kr) fuel (v2, l, (l.length : Int), 0, ()) = foldK (F_q16z_s0 n kr) (fun (v2, _) => kx (())) 0 l (v2, ()) :=
  range_listM l (fun i (v2, _) => (v2, l, (l.length : Int), i, ())) _ _ _ (fun rec i s => rfl) hl fuel (v2, ()) hf

noncomputable def q16z (n : Nat) : (List Ev.Prp) × Unit → Option (Int × Unit) :=
  fun (a1, _) =>
  (bif decide (((a1.length : Int) : Int) > 6) then some (2, ())
  else
  iterN (fun rc10 => q16z_s0 n rc10 (fun (_) => some (0, ())) (fun (v9, _) => some (v9, ()))) (n) ((⟨#[]⟩ : ByteArray), a1, (a1.length : Int), 0, ()))

noncomputable def q30z_s0 {ρ : Type} (n : Nat) (rec : Int × Int × Int × (Ev.Graph × Unit) × Unit → Option ρ) (kx : Unit → Option ρ) (kr : Ev.Node × Unit → Option ρ) : Int × Int × Int × (Ev.Graph × Unit) × Unit → Option ρ :=
  fun (v3, v4, v5, o6, _) =>
  (bif decide ((v5 : Int) < v4) then
  (ix o6.1.nodes v5).bind fun x7 =>
  (bif (x7.id : Int) == v3 then
  (ix o6.1.nodes v5).bind fun x8 => kr ((Ev.Node.mk x8.id x8.labels x8.props), ())
  else rec (v3, v4, IntKind.wrap .i64 (v5 + 1), ((Ev.Graph.mk o6.1.nodes o6.1.edges o6.1.next), ()), ()))
  else kx (()))

noncomputable def q30z (n : Nat) : Ev.Graph × Int × Unit → Option ((Option Ev.Node) × Unit) :=
  fun (a1, a2, _) =>
  iterN (fun rc10 => q30z_s0 n rc10 (fun (_) => some (none, ())) (fun (v9, _) => some (some (Ev.Node.mk v9.id v9.labels v9.props), ()))) (n) (a2, (a1.nodes.length : Int), 0, ((Ev.Graph.mk a1.nodes a1.edges a1.next), ()), ())

noncomputable def q15z_s0 {ρ : Type} (n : Nat) (rec : Int × Int × (List Ev.Node) × Int × Int × (Ev.Graph × Unit) × Unit → Option ρ) (kx : Int × (Ev.Graph × Unit) × Unit → Option ρ) (kr : Int × Unit → Option ρ) : Int × Int × (List Ev.Node) × Int × Int × (Ev.Graph × Unit) × Unit → Option ρ :=
  fun (v2, v3, v4, v5, v6, o7, _) =>
  (bif decide ((v6 : Int) < v5) then
  (ix v4 v6).bind fun x8 =>
  (bif decide ((x8.id : Int) ≤ v3) then kr (6, ())
  else
  (q11z n (x8.labels, ())).bind fun (y9, _) =>
  (bif (y9 : Int) != 0 then kr (y9, ())
  else
  (q16z n (x8.props, ())).bind fun (y10, _) =>
  (bif (y10 : Int) != 0 then kr (y10, ())
  else rec (x8.id, x8.id, v4, v5, IntKind.wrap .i64 (v6 + 1), ((Ev.Graph.mk o7.1.nodes o7.1.edges o7.1.next), ()), ()))))
  else kx (v2, ((Ev.Graph.mk o7.1.nodes o7.1.edges o7.1.next), ()), ()))

noncomputable def q15z_s2 {ρ : Type} (n : Nat) (rec : Int × Int × (List Ev.Edg) × Int × Int × (Ev.Graph × Unit) × Unit → Option ρ) (kx : Int × (Ev.Graph × Unit) × Unit → Option ρ) (kr : Int × Unit → Option ρ) : Int × Int × (List Ev.Edg) × Int × Int × (Ev.Graph × Unit) × Unit → Option ρ :=
  fun (v14, v15, v16, v17, v18, o19, _) =>
  (bif decide ((v18 : Int) < v17) then
  (ix v16 v18).bind fun x20 =>
  (bif decide ((x20.id : Int) ≤ v15) then kr (6, ())
  else
  (q30z n ((Ev.Graph.mk o19.1.nodes o19.1.edges o19.1.next), x20.id, ())).bind fun (y21, _) =>
  optC y21 (
  (q29z (x20.type, ())).bind fun (y23, _) =>
  (bif !y23 then kr (6, ())
  else
  (q30z n ((Ev.Graph.mk o19.1.nodes o19.1.edges o19.1.next), x20.src, ())).bind fun (y24, _) =>
  optC y24 (kr (5, ())) (fun z25 =>
  (q30z n ((Ev.Graph.mk o19.1.nodes o19.1.edges o19.1.next), x20.dst, ())).bind fun (y26, _) =>
  optC y26 (kr (5, ())) (fun z27 =>
  (q16z n (x20.props, ())).bind fun (y28, _) =>
  (bif (y28 : Int) != 0 then kr (y28, ())
  else rec ((if x20.id > v14 then x20.id else v14), x20.id, v16, v17, IntKind.wrap .i64 (v18 + 1), ((Ev.Graph.mk o19.1.nodes o19.1.edges o19.1.next), ()), ())))))) (fun z22 => kr (6, ())))
  else kx (v14, ((Ev.Graph.mk o19.1.nodes o19.1.edges o19.1.next), ()), ()))

noncomputable def F_q15z_s0 {ρ : Type} (n : Nat) (kr : Int × Unit → Option ρ) : Int → Ev.Node → (Int × Int × (Ev.Graph × Unit) × Unit) → ((Int × Int × (Ev.Graph × Unit) × Unit) → Option ρ) → Option ρ :=
  fun v6 x8 (v2, v3, o7, _) rec =>
  (bif decide ((x8.id : Int) ≤ v3) then kr (6, ())
  else
  (q11z n (x8.labels, ())).bind fun (y9, _) =>
  (bif (y9 : Int) != 0 then kr (y9, ())
  else
  (q16z n (x8.props, ())).bind fun (y10, _) =>
  (bif (y10 : Int) != 0 then kr (y10, ())
  else rec (x8.id, x8.id, ((Ev.Graph.mk o7.1.nodes o7.1.edges o7.1.next), ()), ()))))

theorem R_q15z_s0 {ρ : Type} (n : Nat) (kx : Int × (Ev.Graph × Unit) × Unit → Option ρ) (kr : Int × Unit → Option ρ) (l : List Ev.Node) (fuel : Nat) (v2 : Int) (v3 : Int) (o7 : Ev.Graph × Unit) (hl : l.length ≤ 9223372036854775807) (hf : l.length < fuel) :
    iterN (fun rc => q15z_s0 n rc kx kr) fuel (v2, v3, l, (l.length : Int), 0, o7, ()) = foldK (F_q15z_s0 n kr) (fun (v2, v3, o7, _) => kx (v2, ((Ev.Graph.mk o7.1.nodes o7.1.edges o7.1.next), ()), ())) 0 l (v2, v3, o7, ()) :=
  range_listM l (fun i (v2, v3, o7, _) => (v2, v3, l, (l.length : Int), i, o7, ())) _ _ _ (fun rec i s => rfl) hl fuel (v2, v3, o7, ()) hf

noncomputable def F_q15z_s2 {ρ : Type} (n : Nat) (kr : Int × Unit → Option ρ) : Int → Ev.Edg → (Int × Int × (Ev.Graph × Unit) × Unit) → ((Int × Int × (Ev.Graph × Unit) × Unit) → Option ρ) → Option ρ :=
  fun v18 x20 (v14, v15, o19, _) rec =>
  (bif decide ((x20.id : Int) ≤ v15) then kr (6, ())
  else
  (q30z n ((Ev.Graph.mk o19.1.nodes o19.1.edges o19.1.next), x20.id, ())).bind fun (y21, _) =>
  optC y21 (
  (q29z (x20.type, ())).bind fun (y23, _) =>
  (bif !y23 then kr (6, ())
  else
  (q30z n ((Ev.Graph.mk o19.1.nodes o19.1.edges o19.1.next), x20.src, ())).bind fun (y24, _) =>
  optC y24 (kr (5, ())) (fun z25 =>
  (q30z n ((Ev.Graph.mk o19.1.nodes o19.1.edges o19.1.next), x20.dst, ())).bind fun (y26, _) =>
  optC y26 (kr (5, ())) (fun z27 =>
  (q16z n (x20.props, ())).bind fun (y28, _) =>
  (bif (y28 : Int) != 0 then kr (y28, ())
  else rec ((if x20.id > v14 then x20.id else v14), x20.id, ((Ev.Graph.mk o19.1.nodes o19.1.edges o19.1.next), ()), ())))))) (fun z22 => kr (6, ())))

theorem R_q15z_s2 {ρ : Type} (n : Nat) (kx : Int × (Ev.Graph × Unit) × Unit → Option ρ) (kr : Int × Unit → Option ρ) (l : List Ev.Edg) (fuel : Nat) (v14 : Int) (v15 : Int) (o19 : Ev.Graph × Unit) (hl : l.length ≤ 9223372036854775807) (hf : l.length < fuel) :
    iterN (fun rc => q15z_s2 n rc kx kr) fuel (v14, v15, l, (l.length : Int), 0, o19, ()) = foldK (F_q15z_s2 n kr) (fun (v14, v15, o19, _) => kx (v14, ((Ev.Graph.mk o19.1.nodes o19.1.edges o19.1.next), ()), ())) 0 l (v14, v15, o19, ()) :=
  range_listM l (fun i (v14, v15, o19, _) => (v14, v15, l, (l.length : Int), i, o19, ())) _ _ _ (fun rec i s => rfl) hl fuel (v14, v15, o19, ()) hf

noncomputable def q15z (n : Nat) : Ev.Graph × Unit → Option (Int × Unit) :=
  fun (a1, _) =>
  (bif (decide (((a1.nodes.length : Int) : Int) > 40)) || (decide (((a1.edges.length : Int) : Int) > 60)) then some (2, ())
  else
  iterN (fun rc33 => q15z_s0 n rc33 (fun (v11, o12, _) =>
  iterN (fun rc32 => q15z_s2 n rc32 (fun (v29, o30, _) =>
  (bif (decide ((o30.1.next : Int) ≤ v29)) || (decide ((o30.1.next : Int) > 1099511627776)) then some (9, ())
  else some (0, ()))) (fun (v31, _) => some (v31, ()))) (n) (v11, 0, o12.1.edges, (o12.1.edges.length : Int), 0, ((Ev.Graph.mk o12.1.nodes o12.1.edges o12.1.next), ()), ())) (fun (v13, _) => some (v13, ()))) (n) (0, 0, a1.nodes, (a1.nodes.length : Int), 0, ((Ev.Graph.mk a1.nodes a1.edges a1.next), ()), ()))

noncomputable def q38z : Int × Unit → Option (Ev.Val × Unit) :=
  fun (a1, _) => some ((Ev.Val.mk 2 a1 (⟨#[]⟩ : ByteArray) ([] : List Ev.Val)), ())

noncomputable def q33z : Unit → Option (Ev.Graph × Unit) :=
  fun (_) =>
  (q38z (5, ())).bind fun (y1, _) => some ((Ev.Graph.mk ([(Ev.Node.mk 1 ([(⟨#[65]⟩ : ByteArray)] : List ByteArray) ([(Ev.Prp.mk (⟨#[110]⟩ : ByteArray) (Ev.Val.mk y1.kind y1.n y1.s y1.l))] : List Ev.Prp)), (Ev.Node.mk 2 ([] : List ByteArray) ([] : List Ev.Prp))] : List Ev.Node) ([(Ev.Edg.mk 3 1 2 (⟨#[75]⟩ : ByteArray) ([] : List Ev.Prp))] : List Ev.Edg) 4), ())

noncomputable def q58z_s0 {ρ : Type} (n : Nat) (rec : ByteArray × ByteArray × Bool × Int × (List ByteArray) × Unit → Option ρ) (kx : ByteArray × (List ByteArray) × Unit → Option ρ) (kr : Unit → Option ρ) : ByteArray × ByteArray × Bool × Int × (List ByteArray) × Unit → Option ρ :=
  fun (v2, v3, v4, v5, o6, _) =>
  (bif decide ((v5 : Int) < (v2.size : Int)) then
  (sat v2 v5).bind fun c7 =>
  (bif (((c7 : Int) == 92) && v4) && (decide ((IntKind.wrap .i64 (v5 + 1) : Int) < (v2.size : Int))) then
  (ssl v2 v5 (IntKind.wrap .i64 (v5 + 2))).bind fun s8 =>
  (cat? v3 s8).bind fun s9 => rec (v2, s9, v4, IntKind.wrap .i64 ((IntKind.wrap .i64 (v5 + 1)) + 1), o6, ())
  else
  (bif (c7 : Int) == 39 then
  (ssl v2 v5 (IntKind.wrap .i64 (v5 + 1))).bind fun s10 =>
  (cat? v3 s10).bind fun s11 => rec (v2, s11, !v4, IntKind.wrap .i64 (v5 + 1), o6, ())
  else
  (bif ((c7 : Int) == 32) && (!v4) then
  ck (room (o6 ++ ([v3] : List ByteArray)).length 16) (rec (v2, (⟨#[]⟩ : ByteArray), v4, IntKind.wrap .i64 (v5 + 1), o6 ++ ([v3] : List ByteArray), ()))
  else
  (ssl v2 v5 (IntKind.wrap .i64 (v5 + 1))).bind fun s12 =>
  (cat? v3 s12).bind fun s13 => rec (v2, s13, v4, IntKind.wrap .i64 (v5 + 1), o6, ()))))
  else kx (v3, o6, ()))

noncomputable def q58z (n : Nat) : ByteArray × Unit → Option ((List ByteArray) × Unit) :=
  fun (a1, _) =>
  iterN (fun rc16 => q58z_s0 n rc16 (fun (v14, o15, _) =>
  ck (room (o15 ++ ([v14] : List ByteArray)).length 16) (some (o15 ++ ([v14] : List ByteArray), ()))) (fun (_) => none)) (n) (a1, (⟨#[]⟩ : ByteArray), false, 0, ([] : List ByteArray), ())

noncomputable def q57z : ByteArray × Unit → Option (Int × Bool × Unit) :=
  fun (a1, _) =>
  (atoiN (a1, ())).bind fun (y2, _) =>
  (itoaN (y2, ())).bind fun (y3, _) => some (y2, seq y3 a1, ())

noncomputable def q5z : ByteArray × ByteArray × Unit → Option (Bool × Unit) :=
  fun (a1, a2, _) =>
  (bif decide (((a1.size : Int) : Int) ≥ (a2.size : Int)) then
  (ssl a1 0 (a2.size : Int)).bind fun s3 => some (seq s3 a2, ())
  else some (false, ()))

noncomputable def q35z : ByteArray × ByteArray × Unit → Option (Bool × Unit) :=
  fun (a1, a2, _) =>
  (q5z (a1, a2, ())).bind fun (y3, _) => some (y3, ())

noncomputable def q34z : ByteArray × (ByteArray × Int × Unit) × Unit → Option (Bool × (ByteArray × Int × Unit) × Unit) :=
  fun (a1, o2, _) =>
  (ssl o2.1 o2.2.1 (o2.1.size : Int)).bind fun s4 =>
  (q35z (s4, a1, ())).bind fun (y5, _) =>
  (bif !y5 then some (false, (o2.1, o2.2.1, ()), ())
  else some (true, (o2.1, IntKind.wrap .i64 (o2.2.1 + (a1.size : Int)), ()), ()))

noncomputable def q52z : Bool × Unit → Option (Ev.Val × Unit) :=
  fun (a1, _) =>
  (bif a1 then some ((Ev.Val.mk 1 1 (⟨#[]⟩ : ByteArray) ([] : List Ev.Val)), ())
  else some ((Ev.Val.mk 1 0 (⟨#[]⟩ : ByteArray) ([] : List Ev.Val)), ()))

noncomputable def q31z_s0 {ρ : Type} (n : Nat) (rec : Unit × (List Int) × (ByteArray × Int × Unit) × Unit → Option ρ) (kx : Unit → Option ρ) (kr : ByteArray × (ByteArray × Int × Unit) × Unit → Option ρ) : Unit × (List Int) × (ByteArray × Int × Unit) × Unit → Option ρ :=
  fun (o2, o3, o4, _) =>
  (q34z ((⟨#[39]⟩ : ByteArray), (o4.1, o4.2.1, ()), ())).bind fun (y5, o6, _) =>
  (bif y5 then
  (stringN ((()), o3, ())).bind fun (y7, _) => kr (y7, (o6.1, o6.2.1, ()), ())
  else
  (q34z ((⟨#[92, 110]⟩ : ByteArray), (o6.1, o6.2.1, ()), ())).bind fun (y8, o9, _) =>
  (bif y8 then
  (q8z (10, (()), o3, ())).bind fun (o10, o11, _) => rec ((()), o11, (o9.1, o9.2.1, ()), ())
  else
  (q34z ((⟨#[92, 39]⟩ : ByteArray), (o9.1, o9.2.1, ()), ())).bind fun (y12, o13, _) =>
  (bif y12 then
  (q8z (39, (()), o3, ())).bind fun (o14, o15, _) => rec ((()), o15, (o13.1, o13.2.1, ()), ())
  else
  (q34z ((⟨#[92, 92]⟩ : ByteArray), (o13.1, o13.2.1, ()), ())).bind fun (y16, o17, _) =>
  (bif y16 then
  (q8z (92, (()), o3, ())).bind fun (o18, o19, _) => rec ((()), o19, (o17.1, o17.2.1, ()), ())
  else
  (ssl o17.1 o17.2.1 (o17.1.size : Int)).bind fun s21 =>
  (decodeN (s21, ())).bind fun (y22, y23, _) =>
  (bif ((((y23 : Int) == 0) || (((y22 : Int) == 65533) && ((y23 : Int) == 1))) || ((y22 : Int) == 92)) || ((y22 : Int) == 10) then none
  else
  (q9z (y22, (()), o3, ())).bind fun (y24, o25, o26, _) => rec ((()), o26, (o17.1, IntKind.wrap .i64 (o17.2.1 + y23), ()), ()))))))

noncomputable def q31z (n : Nat) : (ByteArray × Int × Unit) × Unit → Option (ByteArray × (ByteArray × Int × Unit) × Unit) :=
  fun (o1, _) =>
  iterN (fun rc29 => q31z_s0 n rc29 (fun (_) => none) (fun (v27, o28, _) => some (v27, (o28.1, o28.2.1, ()), ()))) (n) ((()), ([] : List Int), (o1.1, o1.2.1, ()), ())

noncomputable def q27z_s1 {ρ : Type} (self_q27z : Int × (ByteArray × Int × Unit) × Unit → Option (Ev.Val × (ByteArray × Int × Unit) × Unit)) (n : Nat) (rec : Int × (Ev.Val × Unit) × (Int × Int × ByteArray × Unit) × (List Ev.Val) × (ByteArray × Int × Unit) × Unit → Option ρ) (kx : Unit → Option ρ) (kr : (Int × Int × ByteArray × Unit) × (List Ev.Val) × (ByteArray × Int × Unit) × Unit → Option ρ) : Int × (Ev.Val × Unit) × (Int × Int × ByteArray × Unit) × (List Ev.Val) × (ByteArray × Int × Unit) × Unit → Option ρ :=
  fun (v19, o20, o21, o22, o23, _) =>
  (self_q27z (IntKind.wrap .i64 (v19 + 1), (o23.1, o23.2.1, ()), ())).bind fun (y25, o26, _) =>
  ck (room (o22 ++ ([(Ev.Val.mk y25.kind y25.n y25.s y25.l)] : List Ev.Val)).length 56) (
  (q34z ((⟨#[93]⟩ : ByteArray), (o26.1, o26.2.1, ()), ())).bind fun (y27, o28, _) =>
  (bif y27 then kr ((o21.1, o21.2.1, o21.2.2.1, ()), o22 ++ ([(Ev.Val.mk y25.kind y25.n y25.s y25.l)] : List Ev.Val), (o28.1, o28.2.1, ()), ())
  else
  (q34z ((⟨#[44]⟩ : ByteArray), (o28.1, o28.2.1, ()), ())).bind fun (y29, o30, _) =>
  (bif !y29 then none
  else rec (v19, ((Ev.Val.mk o20.1.kind o20.1.n o20.1.s o20.1.l), ()), (o21.1, o21.2.1, o21.2.2.1, ()), o22 ++ ([(Ev.Val.mk y25.kind y25.n y25.s y25.l)] : List Ev.Val), (o30.1, o30.2.1, ()), ()))))

noncomputable def q27z_s3 {ρ : Type} (self_q27z : Int × (ByteArray × Int × Unit) × Unit → Option (Ev.Val × (ByteArray × Int × Unit) × Unit)) (n : Nat) (rec : Int × (Ev.Val × Unit) × (ByteArray × Int × Unit) × Unit → Option ρ) (kx : Int × (Ev.Val × Unit) × (ByteArray × Int × Unit) × Unit → Option ρ) (kr : Unit → Option ρ) : Int × (Ev.Val × Unit) × (ByteArray × Int × Unit) × Unit → Option ρ :=
  fun (v37, o38, o39, _) =>
  (bif decide ((o39.2.1 : Int) < (o39.1.size : Int)) then
  (sat o39.1 o39.2.1).bind fun c42 =>
  (bif decide ((c42 : Int) ≥ 48) then
  (sat o39.1 o39.2.1).bind fun c43 =>
  (bif decide ((c43 : Int) ≤ 57) then rec (v37, ((Ev.Val.mk o38.1.kind o38.1.n o38.1.s o38.1.l), ()), (o39.1, IntKind.wrap .i64 (o39.2.1 + 1), ()), ())
  else kx (v37, ((Ev.Val.mk o38.1.kind o38.1.n o38.1.s o38.1.l), ()), (o39.1, o39.2.1, ()), ()))
  else kx (v37, ((Ev.Val.mk o38.1.kind o38.1.n o38.1.s o38.1.l), ()), (o39.1, o39.2.1, ()), ()))
  else kx (v37, ((Ev.Val.mk o38.1.kind o38.1.n o38.1.s o38.1.l), ()), (o39.1, o39.2.1, ()), ()))

noncomputable def q27z_b (self_q27z : Int × (ByteArray × Int × Unit) × Unit → Option (Ev.Val × (ByteArray × Int × Unit) × Unit)) (n : Nat) : Int × (ByteArray × Int × Unit) × Unit → Option (Ev.Val × (ByteArray × Int × Unit) × Unit) :=
  fun (a1, o2, _) =>
  (q34z ((⟨#[110, 117, 108, 108]⟩ : ByteArray), (o2.1, o2.2.1, ()), ())).bind fun (y3, o4, _) =>
  (bif y3 then some ((Ev.Val.mk 0 0 (⟨#[]⟩ : ByteArray) ([] : List Ev.Val)), (o4.1, o4.2.1, ()), ())
  else
  (q34z ((⟨#[116, 114, 117, 101]⟩ : ByteArray), (o4.1, o4.2.1, ()), ())).bind fun (y5, o6, _) =>
  (bif y5 then
  (q52z (true, ())).bind fun (y7, _) => some ((Ev.Val.mk y7.kind y7.n y7.s y7.l), (o6.1, o6.2.1, ()), ())
  else
  (q34z ((⟨#[102, 97, 108, 115, 101]⟩ : ByteArray), (o6.1, o6.2.1, ()), ())).bind fun (y8, o9, _) =>
  (bif y8 then
  (q52z (false, ())).bind fun (y10, _) => some ((Ev.Val.mk y10.kind y10.n y10.s y10.l), (o9.1, o9.2.1, ()), ())
  else
  (q34z ((⟨#[39]⟩ : ByteArray), (o9.1, o9.2.1, ()), ())).bind fun (y11, o12, _) =>
  (bif y11 then
  (q31z n ((o12.1, o12.2.1, ()), ())).bind fun (y13, o14, _) => some ((Ev.Val.mk 3 0 y13 ([] : List Ev.Val)), (o14.1, o14.2.1, ()), ())
  else
  (q34z ((⟨#[91]⟩ : ByteArray), (o12.1, o12.2.1, ()), ())).bind fun (y15, o16, _) =>
  (bif y15 then
  (bif decide ((a1 : Int) > 40) then none
  else
  (q34z ((⟨#[93]⟩ : ByteArray), (o16.1, o16.2.1, ()), ())).bind fun (y17, o18, _) =>
  (bif y17 then some ((Ev.Val.mk 4 0 (⟨#[]⟩ : ByteArray) ([] : List Ev.Val)), (o18.1, o18.2.1, ()), ())
  else
  iterN (fun rc34 => q27z_s1 self_q27z n rc34 (fun (_) => none) (fun (o31, o32, o33, _) => some ((Ev.Val.mk o31.1 o31.2.1 o31.2.2.1 o32), (o33.1, o33.2.1, ()), ()))) (n) (a1, ((Ev.Val.mk 0 0 (⟨#[]⟩ : ByteArray) ([] : List Ev.Val)), ()), (4, 0, (⟨#[]⟩ : ByteArray), ()), ([] : List Ev.Val), (o18.1, o18.2.1, ()), ())))
  else
  (q34z ((⟨#[45]⟩ : ByteArray), (o16.1, o16.2.1, ()), ())).bind fun (y35, o36, _) =>
  iterN (fun rc53 => q27z_s3 self_q27z n rc53 (fun (v44, o45, o46, _) =>
  (ssl o46.1 v44 o46.2.1).bind fun s48 =>
  (atoiN (s48, ())).bind fun (y49, _) =>
  (itoaN (y49, ())).bind fun (y51, _) =>
  (ssl o46.1 v44 o46.2.1).bind fun s52 =>
  (bif !(seq y51 s52) then none
  else some ((Ev.Val.mk 2 y49 (⟨#[]⟩ : ByteArray) ([] : List Ev.Val)), (o46.1, o46.2.1, ()), ()))) (fun (_) => none)) (n) (o2.2.1, ((Ev.Val.mk 0 0 (⟨#[]⟩ : ByteArray) ([] : List Ev.Val)), ()), (o36.1, o36.2.1, ()), ()))))))

noncomputable def q27z : Nat → Int × (ByteArray × Int × Unit) × Unit → Option (Ev.Val × (ByteArray × Int × Unit) × Unit)
  | 0, _ => none
  | n + 1, x => q27z_b (q27z n) n x

noncomputable def q49z (n : Nat) : ByteArray × Unit → Option (Ev.Val × Int × Int × Unit) :=
  fun (a1, _) =>
  (bif decide (((a1.size : Int) : Int) > 4000) then some ((Ev.Val.mk 0 0 (⟨#[]⟩ : ByteArray) ([] : List Ev.Val)), 0, 2, ())
  else
  (q27z n (1, (a1, 0, ()), ())).bind fun (y2, o3, _) =>
  (bif decide ((o3.2.1 : Int) < (a1.size : Int)) then none
  else
  (q48z n ((Ev.Val.mk y2.kind y2.n y2.s y2.l), ())).bind fun (y4, _) =>
  (bif (y4 : Int) != 0 then some ((Ev.Val.mk 0 0 (⟨#[]⟩ : ByteArray) ([] : List Ev.Val)), 0, y4, ())
  else some ((Ev.Val.mk y2.kind y2.n y2.s y2.l), 0, 0, ()))))

noncomputable def q39z_s0 {ρ : Type} (n : Nat) (rec : (List ByteArray) × Int × Int × (List Ev.Prp) × Unit → Option ρ) (kx : (List Ev.Prp) × Unit → Option ρ) (kr : (List Ev.Prp) × Bool × Unit → Option ρ) : (List ByteArray) × Int × Int × (List Ev.Prp) × Unit → Option ρ :=
  fun (v2, v3, v4, o5, _) =>
  (bif decide ((v4 : Int) < v3) then
  (ix v2 v4).bind fun x6 =>
  (cutN (x6, (⟨#[61]⟩ : ByteArray), ())).bind fun (y7, y8, y9, _) =>
  (q49z n (y8, ())).bind fun (y10, y11, y12, _) =>
  (bif (!y9) || ((y12 : Int) != 0) then kr (([] : List Ev.Prp), false, ())
  else
  ck (room (o5 ++ ([(Ev.Prp.mk y7 (Ev.Val.mk y10.kind y10.n y10.s y10.l))] : List Ev.Prp)).length 72) (rec (v2, v3, IntKind.wrap .i64 (v4 + 1), o5 ++ ([(Ev.Prp.mk y7 (Ev.Val.mk y10.kind y10.n y10.s y10.l))] : List Ev.Prp), ())))
  else kx (o5, ()))

noncomputable def F_q39z_s0 {ρ : Type} (n : Nat) (kr : (List Ev.Prp) × Bool × Unit → Option ρ) : Int → ByteArray → ((List Ev.Prp) × Unit) → (((List Ev.Prp) × Unit) → Option ρ) → Option ρ :=
  fun v4 x6 (o5, _) rec =>
  (cutN (x6, (⟨#[61]⟩ : ByteArray), ())).bind fun (y7, y8, y9, _) =>
  (q49z n (y8, ())).bind fun (y10, y11, y12, _) =>
  (bif (!y9) || ((y12 : Int) != 0) then kr (([] : List Ev.Prp), false, ())
  else
  ck (room (o5 ++ ([(Ev.Prp.mk y7 (Ev.Val.mk y10.kind y10.n y10.s y10.l))] : List Ev.Prp)).length 72) (rec (o5 ++ ([(Ev.Prp.mk y7 (Ev.Val.mk y10.kind y10.n y10.s y10.l))] : List Ev.Prp), ())))

theorem R_q39z_s0 {ρ : Type} (n : Nat) (kx : (List Ev.Prp) × Unit → Option ρ) (kr : (List Ev.Prp) × Bool × Unit → Option ρ) (l : List ByteArray) (fuel : Nat) (o5 : List Ev.Prp) (hl : l.length ≤ 9223372036854775807) (hf : l.length < fuel) :
    iterN (fun rc => q39z_s0 n rc kx kr) fuel (l, (l.length : Int), 0, o5, ()) = foldK (F_q39z_s0 n kr) (fun (o5, _) => kx (o5, ())) 0 l (o5, ()) :=
  range_listM l (fun i (o5, _) => (l, (l.length : Int), i, o5, ())) _ _ _ (fun rec i s => rfl) hl fuel (o5, ()) hf

noncomputable def q39z (n : Nat) : (List ByteArray) × Unit → Option ((List Ev.Prp) × Bool × Unit) :=
  fun (a1, _) =>
  iterN (fun rc16 => q39z_s0 n rc16 (fun (o13, _) => some (o13, true, ())) (fun (v14, v15, _) => some (v14, v15, ()))) (n) (a1, (a1.length : Int), 0, ([] : List Ev.Prp), ())

noncomputable def port_line_s1 {ρ : Type} (n : Nat) (rec : (List ByteArray) × Bool × (Int × Unit) × (List ByteArray) × (Int × Unit) × (List Ev.Node) × (List Ev.Edg) × Unit → Option ρ) (kx : (List ByteArray) × Bool × (Int × Unit) × (List ByteArray) × (Int × Unit) × (List Ev.Node) × (List Ev.Edg) × Unit → Option ρ) (kr : Unit → Option ρ) : (List ByteArray) × Bool × (Int × Unit) × (List ByteArray) × (Int × Unit) × (List Ev.Node) × (List Ev.Edg) × Unit → Option ρ :=
  fun (v10, v11, o12, o13, o14, o15, o16, _) =>
  (bif v11 && (decide (((v10.length : Int) : Int) > 0)) then
  (ix v10 0).bind fun x17 =>
  (q35z (x17, (⟨#[58]⟩ : ByteArray), ())).bind fun (y18, _) =>
  (bif y18 then
  (ix v10 0).bind fun x21 =>
  (ssl x21 1 (x21.size : Int)).bind fun s22 =>
  ck (room (o13 ++ ([s22] : List ByteArray)).length 16) (
  (lsl v10 1 (v10.length : Int)).bind fun l23 => rec (l23, v11, (o12.1, ()), o13 ++ ([s22] : List ByteArray), (o14.1, ()), o15, o16, ()))
  else kx (v10, v11, (o12.1, ()), o13, (o14.1, ()), o15, o16, ()))
  else kx (v10, v11, (o12.1, ()), o13, (o14.1, ()), o15, o16, ()))

noncomputable def port_line (n : Nat) : (List ByteArray) × (Int × Unit) × (List Ev.Node) × (List Ev.Edg) × Unit → Option (Bool × (Int × Unit) × (List Ev.Node) × (List Ev.Edg) × Unit) :=
  fun (a1, o2, o3, o4, _) =>
  (ix a1 0).bind fun x5 =>
  (bif ((seq x5 (⟨#[110, 111, 100, 101]⟩ : ByteArray)) && (decide (((a1.length : Int) : Int) > 1))) && (((o4.length : Int) : Int) == 0) then
  (ix a1 1).bind fun x6 =>
  (q57z (x6, ())).bind fun (y7, y8, _) =>
  (lsl a1 2 (a1.length : Int)).bind fun l9 =>
  iterN (fun rc34 => port_line_s1 n rc34 (fun (v24, v25, o26, o27, o28, o29, o30, _) =>
  (q39z n (v24, ())).bind fun (y31, y32, _) =>
  ck (room (o29 ++ ([(Ev.Node.mk o26.1 o27 y31)] : List Ev.Node)).length 56) (some (v25 && y32, (o28.1, ()), o29 ++ ([(Ev.Node.mk o26.1 o27 y31)] : List Ev.Node), o30, ()))) (fun (_) => none)) (n) (l9, y8, (y7, ()), ([] : List ByteArray), (o2.1, ()), o3, o4, ())
  else
  (ix a1 0).bind fun x35 =>
  (bif (seq x35 (⟨#[101, 100, 103, 101]⟩ : ByteArray)) && (decide (((a1.length : Int) : Int) > 4)) then
  (ix a1 4).bind fun x36 =>
  (q35z (x36, (⟨#[58]⟩ : ByteArray), ())).bind fun (y37, _) =>
  (bif y37 then
  (ix a1 1).bind fun x38 =>
  (q57z (x38, ())).bind fun (y39, y40, _) =>
  (ix a1 2).bind fun x41 =>
  (q57z (x41, ())).bind fun (y42, y43, _) =>
  (ix a1 3).bind fun x44 =>
  (q57z (x44, ())).bind fun (y45, y46, _) =>
  (lsl a1 5 (a1.length : Int)).bind fun l47 =>
  (q39z n (l47, ())).bind fun (y48, y49, _) =>
  (ix a1 4).bind fun x52 =>
  (ssl x52 1 (x52.size : Int)).bind fun s53 =>
  ck (room (o4 ++ ([(Ev.Edg.mk y39 y42 y45 s53 y48)] : List Ev.Edg)).length 64) (some (((y40 && y43) && y46) && y49, (o2.1, ()), o3, o4 ++ ([(Ev.Edg.mk y39 y42 y45 s53 y48)] : List Ev.Edg), ()))
  else some (false, (o2.1, ()), o3, o4, ()))
  else some (false, (o2.1, ()), o3, o4, ())))

noncomputable def q55z_s0 {ρ : Type} (n : Nat) (rec : (List ByteArray) × (List ByteArray) × Int × Int × (Int × Unit) × (List Ev.Node) × (List Ev.Edg) × Unit → Option ρ) (kx : (Int × Unit) × (List Ev.Node) × (List Ev.Edg) × Unit → Option ρ) (kr : Int × Int × (Ev.Graph × Unit) × Unit → Option ρ) : (List ByteArray) × (List ByteArray) × Int × Int × (Int × Unit) × (List Ev.Node) × (List Ev.Edg) × Unit → Option ρ :=
  fun (v3, v4, v5, v6, o7, o8, o9, _) =>
  (bif decide ((v6 : Int) < v5) then
  (ix v4 v6).bind fun x10 =>
  (q58z n (x10, ())).bind fun (y11, _) =>
  (bif (v6 : Int) == (IntKind.wrap .i64 ((v3.length : Int) - 1)) then
  (bif !((seq x10 (⟨#[]⟩ : ByteArray)) && (decide ((v6 : Int) > 0))) then kr (v6, 1, ((Ev.Graph.mk ([] : List Ev.Node) ([] : List Ev.Edg) 0), ()), ())
  else rec (v3, v4, v5, IntKind.wrap .i64 (v6 + 1), (o7.1, ()), o8, o9, ()))
  else
  (bif (v6 : Int) == 0 then
  (bif ((y11.length : Int) : Int) == 2 then
  (ix y11 0).bind fun x12 =>
  (bif seq x12 (⟨#[110, 101, 120, 116]⟩ : ByteArray) then
  (ix y11 1).bind fun x13 =>
  (q57z (x13, ())).bind fun (y14, y15, _) =>
  (bif !y15 then kr (v6, 1, ((Ev.Graph.mk ([] : List Ev.Node) ([] : List Ev.Edg) 0), ()), ())
  else rec (v3, v4, v5, IntKind.wrap .i64 (v6 + 1), (y14, ()), o8, o9, ()))
  else kr (v6, 1, ((Ev.Graph.mk ([] : List Ev.Node) ([] : List Ev.Edg) 0), ()), ()))
  else kr (v6, 1, ((Ev.Graph.mk ([] : List Ev.Node) ([] : List Ev.Edg) 0), ()), ()))
  else
  (port_line n (y11, (o7.1, ()), o8, o9, ())).bind fun (y16, o17, o18, o19, _) =>
  (bif !y16 then kr (v6, 1, ((Ev.Graph.mk ([] : List Ev.Node) ([] : List Ev.Edg) 0), ()), ())
  else rec (v3, v4, v5, IntKind.wrap .i64 (v6 + 1), (o17.1, ()), o18, o19, ()))))
  else kx ((o7.1, ()), o8, o9, ()))

noncomputable def F_q55z_s0 {ρ : Type} (n : Nat) (kr : Int × Int × (Ev.Graph × Unit) × Unit → Option ρ) : Int → ByteArray → ((List ByteArray) × (Int × Unit) × (List Ev.Node) × (List Ev.Edg) × Unit) → (((List ByteArray) × (Int × Unit) × (List Ev.Node) × (List Ev.Edg) × Unit) → Option ρ) → Option ρ :=
  fun v6 x10 (v3, o7, o8, o9, _) rec =>
  (q58z n (x10, ())).bind fun (y11, _) =>
  (bif (v6 : Int) == (IntKind.wrap .i64 ((v3.length : Int) - 1)) then
  (bif !((seq x10 (⟨#[]⟩ : ByteArray)) && (decide ((v6 : Int) > 0))) then kr (v6, 1, ((Ev.Graph.mk ([] : List Ev.Node) ([] : List Ev.Edg) 0), ()), ())
  else rec (v3, (o7.1, ()), o8, o9, ()))
  else
  (bif (v6 : Int) == 0 then
  (bif ((y11.length : Int) : Int) == 2 then
  (ix y11 0).bind fun x12 =>
  (bif seq x12 (⟨#[110, 101, 120, 116]⟩ : ByteArray) then
  (ix y11 1).bind fun x13 =>
  (q57z (x13, ())).bind fun (y14, y15, _) =>
  (bif !y15 then kr (v6, 1, ((Ev.Graph.mk ([] : List Ev.Node) ([] : List Ev.Edg) 0), ()), ())
  else rec (v3, (y14, ()), o8, o9, ()))
  else kr (v6, 1, ((Ev.Graph.mk ([] : List Ev.Node) ([] : List Ev.Edg) 0), ()), ()))
  else kr (v6, 1, ((Ev.Graph.mk ([] : List Ev.Node) ([] : List Ev.Edg) 0), ()), ()))
  else
  (port_line n (y11, (o7.1, ()), o8, o9, ())).bind fun (y16, o17, o18, o19, _) =>
  (bif !y16 then kr (v6, 1, ((Ev.Graph.mk ([] : List Ev.Node) ([] : List Ev.Edg) 0), ()), ())
  else rec (v3, (o17.1, ()), o18, o19, ()))))

theorem R_q55z_s0 {ρ : Type} (n : Nat) (kx : (Int × Unit) × (List Ev.Node) × (List Ev.Edg) × Unit → Option ρ) (kr : Int × Int × (Ev.Graph × Unit) × Unit → Option ρ) (l : List ByteArray) (fuel : Nat) (v3 : List ByteArray) (o7 : Int × Unit) (o8 : List Ev.Node) (o9 : List Ev.Edg) (hl : l.length ≤ 9223372036854775807) (hf : l.length < fuel) :
    iterN (fun rc => q55z_s0 n rc kx kr) fuel (v3, l, (l.length : Int), 0, o7, o8, o9, ()) = foldK (F_q55z_s0 n kr) (fun (v3, o7, o8, o9, _) => kx ((o7.1, ()), o8, o9, ())) 0 l (v3, o7, o8, o9, ()) :=
  range_listM l (fun i (v3, o7, o8, o9, _) => (v3, l, (l.length : Int), i, o7, o8, o9, ())) _ _ _ (fun rec i s => rfl) hl fuel (v3, o7, o8, o9, ()) hf

noncomputable def q55z (n : Nat) : ByteArray × Unit → Option (Ev.Graph × Int × Int × Unit) :=
  fun (a1, _) =>
  (bif decide (((a1.size : Int) : Int) > 40000) then some ((Ev.Graph.mk ([] : List Ev.Node) ([] : List Ev.Edg) 0), 0, 2, ())
  else
  (splitN (a1, (⟨#[10]⟩ : ByteArray), ())).bind fun (y2, _) =>
  iterN (fun rc27 => q55z_s0 n rc27 (fun (o20, o21, o22, _) =>
  (q46z n ((Ev.Graph.mk o21 o22 o20.1), ())).bind fun (y26, _) =>
  (bif (y26 : Int) != 0 then some ((Ev.Graph.mk ([] : List Ev.Node) ([] : List Ev.Edg) 0), 0, y26, ())
  else some ((Ev.Graph.mk o21 o22 o20.1), 0, 0, ()))) (fun (v23, v24, o25, _) => some ((Ev.Graph.mk o25.1.nodes o25.1.edges o25.1.next), v23, v24, ()))) (n) (y2, y2, (y2.length : Int), 0, (0, ()), ([] : List Ev.Node), ([] : List Ev.Edg), ()))

noncomputable def q10z_s0 {ρ : Type} (n : Nat) (rec : (List ByteArray) × (List ByteArray) × Int × Int × Unit → Option ρ) (kx : Unit → Option ρ) (kr : Bool × Unit → Option ρ) : (List ByteArray) × (List ByteArray) × Int × Int × Unit → Option ρ :=
  fun (v3, v4, v5, v6, _) =>
  (bif decide ((v6 : Int) < v5) then
  (ix v3 v6).bind fun x9 =>
  (ix v4 v6).bind fun x10 =>
  (bif !(seq x9 x10) then kr (false, ())
  else rec (v3, v4, v5, IntKind.wrap .i64 (v6 + 1), ()))
  else kx (()))

noncomputable def F_q10z_s0 {ρ : Type} (n : Nat) (kr : Bool × Unit → Option ρ) : Int → ByteArray → ((List ByteArray) × Unit) → (((List ByteArray) × Unit) → Option ρ) → Option ρ :=
  fun v6 x9 (v4, _) rec =>
  (ix v4 v6).bind fun x10 =>
  (bif !(seq x9 x10) then kr (false, ())
  else rec (v4, ()))

theorem R_q10z_s0 {ρ : Type} (n : Nat) (kx : Unit → Option ρ) (kr : Bool × Unit → Option ρ) (l : List ByteArray) (fuel : Nat) (v4 : List ByteArray) (hl : l.length ≤ 9223372036854775807) (hf : l.length < fuel) :
    iterN (fun rc => q10z_s0 n rc kx kr) fuel (l, v4, (l.length : Int), 0, ()) = foldK (F_q10z_s0 n kr) (fun (v4, _) => kx (())) 0 l (v4, ()) :=
  range_listM l (fun i (v4, _) => (l, v4, (l.length : Int), i, ())) _ _ _ (fun rec i s => rfl) hl fuel (v4, ()) hf

noncomputable def q10z (n : Nat) : (List ByteArray) × (List ByteArray) × Unit → Option (Bool × Unit) :=
  fun (a1, a2, _) =>
  (bif ((a1.length : Int) : Int) != (a2.length : Int) then some (false, ())
  else
  iterN (fun rc12 => q10z_s0 n rc12 (fun (_) => some (true, ())) (fun (v11, _) => some (v11, ()))) (n) (a1, a2, (a1.length : Int), 0, ()))

noncomputable def q40z : (List Int) × (List Int) × Unit → Option (Int × Unit) :=
  fun (a1, a2, _) =>
  (cmpN (a1, a2, ())).bind fun (y3, _) => some (y3, ())

noncomputable def q26z_s1 {ρ : Type} (self_q26z : Ev.Val × Ev.Val × Unit → Option (Int × Unit)) (n : Nat) (rec : Int × (Ev.Val × Unit) × (Ev.Val × Unit) × Unit → Option ρ) (kx : (Ev.Val × Unit) × (Ev.Val × Unit) × Unit → Option ρ) (kr : Int × Unit → Option ρ) : Int × (Ev.Val × Unit) × (Ev.Val × Unit) × Unit → Option ρ :=
  fun (v4, o5, o6, _) =>
  (bif (decide ((v4 : Int) < (o5.1.l.length : Int))) && (decide ((v4 : Int) < (o6.1.l.length : Int))) then
  (ix o5.1.l v4).bind fun x9 =>
  (ix o6.1.l v4).bind fun x10 =>
  (self_q26z ((Ev.Val.mk x9.kind x9.n x9.s x9.l), (Ev.Val.mk x10.kind x10.n x10.s x10.l), ())).bind fun (y11, _) =>
  (bif (y11 : Int) != 0 then kr (y11, ())
  else rec (IntKind.wrap .i64 (v4 + 1), ((Ev.Val.mk o5.1.kind o5.1.n o5.1.s o5.1.l), ()), ((Ev.Val.mk o6.1.kind o6.1.n o6.1.s o6.1.l), ()), ()))
  else kx (((Ev.Val.mk o5.1.kind o5.1.n o5.1.s o5.1.l), ()), ((Ev.Val.mk o6.1.kind o6.1.n o6.1.s o6.1.l), ()), ()))

noncomputable def q26z_b (self_q26z : Ev.Val × Ev.Val × Unit → Option (Int × Unit)) (n : Nat) : Ev.Val × Ev.Val × Unit → Option (Int × Unit) :=
  fun (a1, a2, _) =>
  (bif decide ((a1.kind : Int) < a2.kind) then some ((-1), ())
  else
  (bif decide ((a1.kind : Int) > a2.kind) then some (1, ())
  else
  (bif decide ((a1.n : Int) < a2.n) then some ((-1), ())
  else
  (bif decide ((a1.n : Int) > a2.n) then some (1, ())
  else
  (bif !(seq a1.s a2.s) then
  (q40z (bytesI a1.s, bytesI a2.s, ())).bind fun (y3, _) => some (y3, ())
  else
  iterN (fun rc15 => q26z_s1 self_q26z n rc15 (fun (o12, o13, _) =>
  (bif decide (((o12.1.l.length : Int) : Int) < (o13.1.l.length : Int)) then some ((-1), ())
  else
  (bif decide (((o12.1.l.length : Int) : Int) > (o13.1.l.length : Int)) then some (1, ())
  else some (0, ())))) (fun (v14, _) => some (v14, ()))) (n) (0, ((Ev.Val.mk a1.kind a1.n a1.s a1.l), ()), ((Ev.Val.mk a2.kind a2.n a2.s a2.l), ()), ()))))))

noncomputable def q26z : Nat → Ev.Val × Ev.Val × Unit → Option (Int × Unit)
  | 0, _ => none
  | n + 1, x => q26z_b (q26z n) n x

noncomputable def q22z (n : Nat) : Ev.Val × Ev.Val × Unit → Option (Bool × Unit) :=
  fun (a1, a2, _) =>
  (q26z n ((Ev.Val.mk a1.kind a1.n a1.s a1.l), (Ev.Val.mk a2.kind a2.n a2.s a2.l), ())).bind fun (y3, _) => some ((y3 : Int) == 0, ())

noncomputable def q13z (n : Nat) : Ev.Prp × Ev.Prp × Unit → Option (Bool × Unit) :=
  fun (a1, a2, _) =>
  (bif seq a1.name a2.name then
  (q22z n ((Ev.Val.mk a1.val.kind a1.val.n a1.val.s a1.val.l), (Ev.Val.mk a2.val.kind a2.val.n a2.val.s a2.val.l), ())).bind fun (y3, _) => some (y3, ())
  else some (false, ()))

noncomputable def q0z_s0 {ρ : Type} (n : Nat) (rec : (List Ev.Prp) × (List Ev.Prp) × Int × Int × Unit → Option ρ) (kx : Unit → Option ρ) (kr : Bool × Unit → Option ρ) : (List Ev.Prp) × (List Ev.Prp) × Int × Int × Unit → Option ρ :=
  fun (v3, v4, v5, v6, _) =>
  (bif decide ((v6 : Int) < v5) then
  (ix v4 v6).bind fun x7 =>
  (ix v3 v6).bind fun x8 =>
  (q13z n ((Ev.Prp.mk x7.name (Ev.Val.mk x7.val.kind x7.val.n x7.val.s x7.val.l)), (Ev.Prp.mk x8.name (Ev.Val.mk x8.val.kind x8.val.n x8.val.s x8.val.l)), ())).bind fun (y9, _) =>
  (bif !y9 then kr (false, ())
  else rec (v3, v4, v5, IntKind.wrap .i64 (v6 + 1), ()))
  else kx (()))

noncomputable def F_q0z_s0 {ρ : Type} (n : Nat) (kr : Bool × Unit → Option ρ) : Int → Ev.Prp → ((List Ev.Prp) × Unit) → (((List Ev.Prp) × Unit) → Option ρ) → Option ρ :=
  fun v6 x7 (v3, _) rec =>
  (ix v3 v6).bind fun x8 =>
  (q13z n ((Ev.Prp.mk x7.name (Ev.Val.mk x7.val.kind x7.val.n x7.val.s x7.val.l)), (Ev.Prp.mk x8.name (Ev.Val.mk x8.val.kind x8.val.n x8.val.s x8.val.l)), ())).bind fun (y9, _) =>
  (bif !y9 then kr (false, ())
  else rec (v3, ()))

theorem R_q0z_s0 {ρ : Type} (n : Nat) (kx : Unit → Option ρ) (kr : Bool × Unit → Option ρ) (l : List Ev.Prp) (fuel : Nat) (v3 : List Ev.Prp) (hl : l.length ≤ 9223372036854775807) (hf : l.length < fuel) :
    iterN (fun rc => q0z_s0 n rc kx kr) fuel (v3, l, (l.length : Int), 0, ()) = foldK (F_q0z_s0 n kr) (fun (v3, _) => kx (())) 0 l (v3, ()) :=
  range_listM l (fun i (v3, _) => (v3, l, (l.length : Int), i, ())) _ _ _ (fun rec i s => rfl) hl fuel (v3, ()) hf

noncomputable def q0z (n : Nat) : (List Ev.Prp) × (List Ev.Prp) × Unit → Option (Bool × Unit) :=
  fun (a1, a2, _) =>
  (bif ((a1.length : Int) : Int) != (a2.length : Int) then some (false, ())
  else
  iterN (fun rc11 => q0z_s0 n rc11 (fun (_) => some (true, ())) (fun (v10, _) => some (v10, ()))) (n) (a2, a1, (a1.length : Int), 0, ()))

noncomputable def q21z (n : Nat) : (List Ev.Prp) × (List Ev.Prp) × Unit → Option (Bool × Unit) :=
  fun (a1, a2, _) =>
  (q0z n (a1, a2, ())).bind fun (y3, _) => some (y3, ())

noncomputable def q24z (n : Nat) : Ev.Node × Ev.Node × Unit → Option (Bool × Unit) :=
  fun (a1, a2, _) =>
  (bif (a1.id : Int) == a2.id then
  (q10z n (a1.labels, a2.labels, ())).bind fun (y3, _) =>
  (bif y3 then
  (q21z n (a1.props, a2.props, ())).bind fun (y4, _) => some (y4, ())
  else some (false, ()))
  else some (false, ()))

noncomputable def q2z_s0 {ρ : Type} (n : Nat) (rec : (List Ev.Node) × (List Ev.Node) × Int × Int × Unit → Option ρ) (kx : Unit → Option ρ) (kr : Bool × Unit → Option ρ) : (List Ev.Node) × (List Ev.Node) × Int × Int × Unit → Option ρ :=
  fun (v3, v4, v5, v6, _) =>
  (bif decide ((v6 : Int) < v5) then
  (ix v4 v6).bind fun x7 =>
  (ix v3 v6).bind fun x8 =>
  (q24z n ((Ev.Node.mk x7.id x7.labels x7.props), (Ev.Node.mk x8.id x8.labels x8.props), ())).bind fun (y9, _) =>
  (bif !y9 then kr (false, ())
  else rec (v3, v4, v5, IntKind.wrap .i64 (v6 + 1), ()))
  else kx (()))

noncomputable def F_q2z_s0 {ρ : Type} (n : Nat) (kr : Bool × Unit → Option ρ) : Int → Ev.Node → ((List Ev.Node) × Unit) → (((List Ev.Node) × Unit) → Option ρ) → Option ρ :=
  fun v6 x7 (v3, _) rec =>
  (ix v3 v6).bind fun x8 =>
  (q24z n ((Ev.Node.mk x7.id x7.labels x7.props), (Ev.Node.mk x8.id x8.labels x8.props), ())).bind fun (y9, _) =>
  (bif !y9 then kr (false, ())
  else rec (v3, ()))

theorem R_q2z_s0 {ρ : Type} (n : Nat) (kx : Unit → Option ρ) (kr : Bool × Unit → Option ρ) (l : List Ev.Node) (fuel : Nat) (v3 : List Ev.Node) (hl : l.length ≤ 9223372036854775807) (hf : l.length < fuel) :
    iterN (fun rc => q2z_s0 n rc kx kr) fuel (v3, l, (l.length : Int), 0, ()) = foldK (F_q2z_s0 n kr) (fun (v3, _) => kx (())) 0 l (v3, ()) :=
  range_listM l (fun i (v3, _) => (v3, l, (l.length : Int), i, ())) _ _ _ (fun rec i s => rfl) hl fuel (v3, ()) hf

noncomputable def q2z (n : Nat) : (List Ev.Node) × (List Ev.Node) × Unit → Option (Bool × Unit) :=
  fun (a1, a2, _) =>
  (bif ((a1.length : Int) : Int) != (a2.length : Int) then some (false, ())
  else
  iterN (fun rc11 => q2z_s0 n rc11 (fun (_) => some (true, ())) (fun (v10, _) => some (v10, ()))) (n) (a2, a1, (a1.length : Int), 0, ()))

noncomputable def q23z (n : Nat) : Ev.Edg × Ev.Edg × Unit → Option (Bool × Unit) :=
  fun (a1, a2, _) =>
  (bif ((((a1.id : Int) == a2.id) && ((a1.src : Int) == a2.src)) && ((a1.dst : Int) == a2.dst)) && (seq a1.type a2.type) then
  (q21z n (a1.props, a2.props, ())).bind fun (y3, _) => some (y3, ())
  else some (false, ()))

noncomputable def q1z_s0 {ρ : Type} (n : Nat) (rec : (List Ev.Edg) × (List Ev.Edg) × Int × Int × Unit → Option ρ) (kx : Unit → Option ρ) (kr : Bool × Unit → Option ρ) : (List Ev.Edg) × (List Ev.Edg) × Int × Int × Unit → Option ρ :=
  fun (v3, v4, v5, v6, _) =>
  (bif decide ((v6 : Int) < v5) then
  (ix v4 v6).bind fun x7 =>
  (ix v3 v6).bind fun x8 =>
  (q23z n ((Ev.Edg.mk x7.id x7.src x7.dst x7.type x7.props), (Ev.Edg.mk x8.id x8.src x8.dst x8.type x8.props), ())).bind fun (y9, _) =>
  (bif !y9 then kr (false, ())
  else rec (v3, v4, v5, IntKind.wrap .i64 (v6 + 1), ()))
  else kx (()))

noncomputable def F_q1z_s0 {ρ : Type} (n : Nat) (kr : Bool × Unit → Option ρ) : Int → Ev.Edg → ((List Ev.Edg) × Unit) → (((List Ev.Edg) × Unit) → Option ρ) → Option ρ :=
  fun v6 x7 (v3, _) rec =>
  (ix v3 v6).bind fun x8 =>
  (q23z n ((Ev.Edg.mk x7.id x7.src x7.dst x7.type x7.props), (Ev.Edg.mk x8.id x8.src x8.dst x8.type x8.props), ())).bind fun (y9, _) =>
  (bif !y9 then kr (false, ())
  else rec (v3, ()))

theorem R_q1z_s0 {ρ : Type} (n : Nat) (kx : Unit → Option ρ) (kr : Bool × Unit → Option ρ) (l : List Ev.Edg) (fuel : Nat) (v3 : List Ev.Edg) (hl : l.length ≤ 9223372036854775807) (hf : l.length < fuel) :
    iterN (fun rc => q1z_s0 n rc kx kr) fuel (v3, l, (l.length : Int), 0, ()) = foldK (F_q1z_s0 n kr) (fun (v3, _) => kx (())) 0 l (v3, ()) :=
  range_listM l (fun i (v3, _) => (v3, l, (l.length : Int), i, ())) _ _ _ (fun rec i s => rfl) hl fuel (v3, ()) hf

noncomputable def q1z (n : Nat) : (List Ev.Edg) × (List Ev.Edg) × Unit → Option (Bool × Unit) :=
  fun (a1, a2, _) =>
  (bif ((a1.length : Int) : Int) != (a2.length : Int) then some (false, ())
  else
  iterN (fun rc11 => q1z_s0 n rc11 (fun (_) => some (true, ())) (fun (v10, _) => some (v10, ()))) (n) (a2, a1, (a1.length : Int), 0, ()))

noncomputable def q20z (n : Nat) : Ev.Graph × Ev.Graph × Unit → Option (Bool × Unit) :=
  fun (a1, a2, _) =>
  (bif (a1.next : Int) == a2.next then
  (q2z n (a1.nodes, a2.nodes, ())).bind fun (y3, _) =>
  (bif y3 then
  (q1z n (a1.edges, a2.edges, ())).bind fun (y4, _) => some (y4, ())
  else some (false, ()))
  else some (false, ()))

noncomputable def q28z (n : Nat) : Unit → Option (Bool × Unit) :=
  fun (_) =>
  (q33z (())).bind fun (y1, _) =>
  (q56z n ((Ev.Graph.mk y1.nodes y1.edges y1.next), ())).bind fun (y2, y3, _) =>
  (q55z n (y2, ())).bind fun (y4, y5, y6, _) =>
  (bif ((((y3 : Int) == 0) && ((y6 : Int) == 0)) && ((y5 : Int) == 0)) && (seq y2 (⟨#[110, 101, 120, 116, 32, 52, 10, 110, 111, 100, 101, 32, 49, 32, 58, 65, 32, 110, 61, 53, 10, 110, 111, 100, 101, 32, 50, 10, 101, 100, 103, 101, 32, 51, 32, 49, 32, 50, 32, 58, 75, 10]⟩ : ByteArray)) then
  (q33z (())).bind fun (y7, _) =>
  (q20z n ((Ev.Graph.mk y4.nodes y4.edges y4.next), (Ev.Graph.mk y7.nodes y7.edges y7.next), ())).bind fun (y8, _) => some (y8, ())
  else some (false, ()))

noncomputable def q12z_s0 {ρ : Type} (n : Nat) (rec : ByteArray × (List Ev.Prp) × Int × Int × (Bool × Unit) × Unit → Option ρ) (kx : ByteArray × (Bool × Unit) × Unit → Option ρ) (kr : Unit → Option ρ) : ByteArray × (List Ev.Prp) × Int × Int × (Bool × Unit) × Unit → Option ρ :=
  fun (v3, v4, v5, v6, o7, _) =>
  (bif decide ((v6 : Int) < v5) then
  (ix v4 v6).bind fun x8 =>
  (printOfN ((Ev.Val.mk x8.val.kind x8.val.n x8.val.s x8.val.l), ())).bind fun (y9, _) =>
  (cat? (⟨#[32]⟩ : ByteArray) x8.name).bind fun s10 =>
  (cat? s10 (⟨#[61]⟩ : ByteArray)).bind fun s11 =>
  (cat? s11 y9).bind fun s12 =>
  (cat? v3 s12).bind fun s13 => rec (s13, v4, v5, IntKind.wrap .i64 (v6 + 1), (o7.1 && (decide (((y9.size : Int) : Int) ≤ 4000)), ()), ())
  else kx (v3, (o7.1, ()), ()))

noncomputable def F_q12z_s0 {ρ : Type} (n : Nat) (kr : Unit → Option ρ) : Int → Ev.Prp → (ByteArray × (Bool × Unit) × Unit) → ((ByteArray × (Bool × Unit) × Unit) → Option ρ) → Option ρ :=
  fun v6 x8 (v3, o7, _) rec =>
  (printOfN ((Ev.Val.mk x8.val.kind x8.val.n x8.val.s x8.val.l), ())).bind fun (y9, _) =>
  (cat? (⟨#[32]⟩ : ByteArray) x8.name).bind fun s10 =>
  (cat? s10 (⟨#[61]⟩ : ByteArray)).bind fun s11 =>
  (cat? s11 y9).bind fun s12 =>
  (cat? v3 s12).bind fun s13 => rec (s13, (o7.1 && (decide (((y9.size : Int) : Int) ≤ 4000)), ()), ())

theorem R_q12z_s0 {ρ : Type} (n : Nat) (kx : ByteArray × (Bool × Unit) × Unit → Option ρ) (kr : Unit → Option ρ) (l : List Ev.Prp) (fuel : Nat) (v3 : ByteArray) (o7 : Bool × Unit) (hl : l.length ≤ 9223372036854775807) (hf : l.length < fuel) :
    iterN (fun rc => q12z_s0 n rc kx kr) fuel (v3, l, (l.length : Int), 0, o7, ()) = foldK (F_q12z_s0 n kr) (fun (v3, o7, _) => kx (v3, (o7.1, ()), ())) 0 l (v3, o7, ()) :=
  range_listM l (fun i (v3, o7, _) => (v3, l, (l.length : Int), i, o7, ())) _ _ _ (fun rec i s => rfl) hl fuel (v3, o7, ()) hf

noncomputable def q12z (n : Nat) : (List Ev.Prp) × (Bool × Unit) × Unit → Option (ByteArray × (Bool × Unit) × Unit) :=
  fun (a1, o2, _) =>
  iterN (fun rc17 => q12z_s0 n rc17 (fun (v14, o15, _) =>
  (cat? v14 (⟨#[10]⟩ : ByteArray)).bind fun s16 => some (s16, (o15.1, ()), ())) (fun (_) => none)) (n) ((⟨#[]⟩ : ByteArray), a1, (a1.length : Int), 0, (o2.1, ()), ())

noncomputable def q19z_s2 {ρ : Type} (n : Nat) (rec : ByteArray × (List Ev.Node) × Int × Int × (List ByteArray) × Int × Int × (Ev.Graph × Unit) × (Bool × Unit) × (Ev.Node × Unit) × Unit → Option ρ) (kx : ByteArray × (List Ev.Node) × Int × Int × (Ev.Graph × Unit) × (Bool × Unit) × (Ev.Node × Unit) × Unit → Option ρ) (kr : Unit → Option ρ) : ByteArray × (List Ev.Node) × Int × Int × (List ByteArray) × Int × Int × (Ev.Graph × Unit) × (Bool × Unit) × (Ev.Node × Unit) × Unit → Option ρ :=
  fun (v15, v16, v17, v18, v19, v20, v21, o22, o23, o24, _) =>
  (bif decide ((v21 : Int) < v20) then
  (ix v19 v21).bind fun x25 =>
  (cat? (⟨#[32, 58]⟩ : ByteArray) x25).bind fun s26 =>
  (cat? v15 s26).bind fun s27 => rec (s27, v16, v17, v18, v19, v20, IntKind.wrap .i64 (v21 + 1), ((Ev.Graph.mk o22.1.nodes o22.1.edges o22.1.next), ()), (o23.1, ()), ((Ev.Node.mk o24.1.id o24.1.labels o24.1.props), ()), ())
  else kx (v15, v16, v17, v18, ((Ev.Graph.mk o22.1.nodes o22.1.edges o22.1.next), ()), (o23.1, ()), ((Ev.Node.mk o24.1.id o24.1.labels o24.1.props), ()), ()))

noncomputable def q19z_s0 {ρ : Type} (n : Nat) (rec : ByteArray × (List Ev.Node) × Int × Int × (Ev.Graph × Unit) × (Bool × Unit) × Unit → Option ρ) (kx : ByteArray × (Ev.Graph × Unit) × (Bool × Unit) × Unit → Option ρ) (kr : Unit → Option ρ) : ByteArray × (List Ev.Node) × Int × Int × (Ev.Graph × Unit) × (Bool × Unit) × Unit → Option ρ :=
  fun (v5, v6, v7, v8, o9, o10, _) =>
  (bif decide ((v8 : Int) < v7) then
  (ix v6 v8).bind fun x11 =>
  (itoaN (x11.id, ())).bind fun (y12, _) =>
  (cat? (⟨#[110, 111, 100, 101, 32]⟩ : ByteArray) y12).bind fun s13 =>
  (cat? v5 s13).bind fun s14 =>
  iterN (fun rc38 => q19z_s2 n rc38 (fun (v28, v29, v30, v31, o32, o33, o34, _) =>
  (q12z n (o34.1.props, (o33.1, ()), ())).bind fun (y35, o36, _) =>
  (cat? v28 y35).bind fun s37 => rec (s37, v29, v30, IntKind.wrap .i64 (v31 + 1), ((Ev.Graph.mk o32.1.nodes o32.1.edges o32.1.next), ()), (o36.1, ()), ())) (fun (_) => none)) (n) (s14, v6, v7, v8, x11.labels, (x11.labels.length : Int), 0, ((Ev.Graph.mk o9.1.nodes o9.1.edges o9.1.next), ()), (o10.1, ()), ((Ev.Node.mk x11.id x11.labels x11.props), ()), ())
  else kx (v5, ((Ev.Graph.mk o9.1.nodes o9.1.edges o9.1.next), ()), (o10.1, ()), ()))

noncomputable def q19z_s4 {ρ : Type} (n : Nat) (rec : ByteArray × (List Ev.Edg) × Int × Int × (Bool × Unit) × Unit → Option ρ) (kx : ByteArray × (Bool × Unit) × Unit → Option ρ) (kr : Unit → Option ρ) : ByteArray × (List Ev.Edg) × Int × Int × (Bool × Unit) × Unit → Option ρ :=
  fun (v42, v43, v44, v45, o46, _) =>
  (bif decide ((v45 : Int) < v44) then
  (ix v43 v45).bind fun x47 =>
  (itoaN (x47.id, ())).bind fun (y48, _) =>
  (cat? (⟨#[101, 100, 103, 101, 32]⟩ : ByteArray) y48).bind fun s49 =>
  (cat? s49 (⟨#[32]⟩ : ByteArray)).bind fun s50 =>
  (itoaN (x47.src, ())).bind fun (y51, _) =>
  (cat? s50 y51).bind fun s52 =>
  (cat? s52 (⟨#[32]⟩ : ByteArray)).bind fun s53 =>
  (itoaN (x47.dst, ())).bind fun (y54, _) =>
  (cat? s53 y54).bind fun s55 =>
  (cat? s55 (⟨#[32, 58]⟩ : ByteArray)).bind fun s56 =>
  (cat? s56 x47.type).bind fun s57 =>
  (q12z n (x47.props, (o46.1, ()), ())).bind fun (y58, o59, _) =>
  (cat? s57 y58).bind fun s60 =>
  (cat? v42 s60).bind fun s61 => rec (s61, v43, v44, IntKind.wrap .i64 (v45 + 1), (o59.1, ()), ())
  else kx (v42, (o46.1, ()), ()))

noncomputable def F_q19z_s2 {ρ : Type} (n : Nat) (kr : Unit → Option ρ) : Int → ByteArray → (ByteArray × (List Ev.Node) × Int × Int × (Ev.Graph × Unit) × (Bool × Unit) × (Ev.Node × Unit) × Unit) → ((ByteArray × (List Ev.Node) × Int × Int × (Ev.Graph × Unit) × (Bool × Unit) × (Ev.Node × Unit) × Unit) → Option ρ) → Option ρ :=
  fun v21 x25 (v15, v16, v17, v18, o22, o23, o24, _) rec =>
  (cat? (⟨#[32, 58]⟩ : ByteArray) x25).bind fun s26 =>
  (cat? v15 s26).bind fun s27 => rec (s27, v16, v17, v18, ((Ev.Graph.mk o22.1.nodes o22.1.edges o22.1.next), ()), (o23.1, ()), ((Ev.Node.mk o24.1.id o24.1.labels o24.1.props), ()), ())

theorem R_q19z_s2 {ρ : Type} (n : Nat) (kx : ByteArray × (List Ev.Node) × Int × Int × (Ev.Graph × Unit) × (Bool × Unit) × (Ev.Node × Unit) × Unit → Option ρ) (kr : Unit → Option ρ) (l : List ByteArray) (fuel : Nat) (v15 : ByteArray) (v16 : List Ev.Node) (v17 : Int) (v18 : Int) (o22 : Ev.Graph × Unit) (o23 : Bool × Unit) (o24 : Ev.Node × Unit) (hl : l.length ≤ 9223372036854775807) (hf : l.length < fuel) :
    iterN (fun rc => q19z_s2 n rc kx kr) fuel (v15, v16, v17, v18, l, (l.length : Int), 0, o22, o23, o24, ()) = foldK (F_q19z_s2 n kr) (fun (v15, v16, v17, v18, o22, o23, o24, _) => kx (v15, v16, v17, v18, ((Ev.Graph.mk o22.1.nodes o22.1.edges o22.1.next), ()), (o23.1, ()), ((Ev.Node.mk o24.1.id o24.1.labels o24.1.props), ()), ())) 0 l (v15, v16, v17, v18, o22, o23, o24, ()) :=
  range_listM l (fun i (v15, v16, v17, v18, o22, o23, o24, _) => (v15, v16, v17, v18, l, (l.length : Int), i, o22, o23, o24, ())) _ _ _ (fun rec i s => rfl) hl fuel (v15, v16, v17, v18, o22, o23, o24, ()) hf

noncomputable def F_q19z_s4 {ρ : Type} (n : Nat) (kr : Unit → Option ρ) : Int → Ev.Edg → (ByteArray × (Bool × Unit) × Unit) → ((ByteArray × (Bool × Unit) × Unit) → Option ρ) → Option ρ :=
  fun v45 x47 (v42, o46, _) rec =>
  (itoaN (x47.id, ())).bind fun (y48, _) =>
  (cat? (⟨#[101, 100, 103, 101, 32]⟩ : ByteArray) y48).bind fun s49 =>
  (cat? s49 (⟨#[32]⟩ : ByteArray)).bind fun s50 =>
  (itoaN (x47.src, ())).bind fun (y51, _) =>
  (cat? s50 y51).bind fun s52 =>
  (cat? s52 (⟨#[32]⟩ : ByteArray)).bind fun s53 =>
  (itoaN (x47.dst, ())).bind fun (y54, _) =>
  (cat? s53 y54).bind fun s55 =>
  (cat? s55 (⟨#[32, 58]⟩ : ByteArray)).bind fun s56 =>
  (cat? s56 x47.type).bind fun s57 =>
  (q12z n (x47.props, (o46.1, ()), ())).bind fun (y58, o59, _) =>
  (cat? s57 y58).bind fun s60 =>
  (cat? v42 s60).bind fun s61 => rec (s61, (o59.1, ()), ())

theorem R_q19z_s4 {ρ : Type} (n : Nat) (kx : ByteArray × (Bool × Unit) × Unit → Option ρ) (kr : Unit → Option ρ) (l : List Ev.Edg) (fuel : Nat) (v42 : ByteArray) (o46 : Bool × Unit) (hl : l.length ≤ 9223372036854775807) (hf : l.length < fuel) :
    iterN (fun rc => q19z_s4 n rc kx kr) fuel (v42, l, (l.length : Int), 0, o46, ()) = foldK (F_q19z_s4 n kr) (fun (v42, o46, _) => kx (v42, (o46.1, ()), ())) 0 l (v42, o46, ()) :=
  range_listM l (fun i (v42, o46, _) => (v42, l, (l.length : Int), i, o46, ())) _ _ _ (fun rec i s => rfl) hl fuel (v42, o46, ()) hf

noncomputable def q19z (n : Nat) : Ev.Graph × Unit → Option (ByteArray × Bool × Unit) :=
  fun (a1, _) =>
  (itoaN (a1.next, ())).bind fun (y2, _) =>
  (cat? (⟨#[110, 101, 120, 116, 32]⟩ : ByteArray) y2).bind fun s3 =>
  (cat? s3 (⟨#[10]⟩ : ByteArray)).bind fun s4 =>
  iterN (fun rc65 => q19z_s0 n rc65 (fun (v39, o40, o41, _) =>
  iterN (fun rc64 => q19z_s4 n rc64 (fun (v62, o63, _) => some (v62, o63.1 && (decide (((v62.size : Int) : Int) ≤ 40000)), ())) (fun (_) => none)) (n) (v39, o40.1.edges, (o40.1.edges.length : Int), 0, (o41.1, ()), ())) (fun (_) => none)) (n) (s4, a1.nodes, (a1.nodes.length : Int), 0, ((Ev.Graph.mk a1.nodes a1.edges a1.next), ()), (true, ()), ())

noncomputable def q18z (n : Nat) : Ev.Graph × Unit → Option (Bool × Unit) :=
  fun (a1, _) =>
  (q56z n ((Ev.Graph.mk a1.nodes a1.edges a1.next), ())).bind fun (y2, y3, _) =>
  (q15z n ((Ev.Graph.mk a1.nodes a1.edges a1.next), ())).bind fun (y4, _) =>
  (q28z n (())).bind fun (y5, _) =>
  (bif (!y5) || ((y4 : Int) != 0) then
  (q28z n (())).bind fun (y6, _) => some ((y6 && ((y3 : Int) == y4)) && (seq y2 (⟨#[]⟩ : ByteArray)), ())
  else
  (q19z n ((Ev.Graph.mk a1.nodes a1.edges a1.next), ())).bind fun (y7, y8, _) =>
  (bif !y8 then some (((y3 : Int) == 2) && (seq y2 (⟨#[]⟩ : ByteArray)), ())
  else some (((y3 : Int) == 0) && (seq y2 y7), ())))

end Pure

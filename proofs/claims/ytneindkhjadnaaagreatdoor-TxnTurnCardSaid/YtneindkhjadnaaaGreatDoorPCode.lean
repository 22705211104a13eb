/- Plain functions that compute what functions of the program compute (written by gen.py). -/
import Derived.Test.YtneindkhjadnaaaGreatDoorEvLib
import Derived.Test.YtneindkhjadnaaaGreatDoorPRange
import Derived.Test.YtneindkhjadnaaaGreatDoorEvIns
import Derived.Test.YtneindkhjadnaaaGreatDoorEvRise
namespace Pure
open Esp Ev Go
set_option linter.unusedSimpArgs false
set_option linter.unusedVariables false

noncomputable def q72z_s0 {ρ : Type} (n : Nat) (rec : ByteArray × Int × Int × Unit → Option ρ) (kx : Unit → Option ρ) (kr : Bool × Unit → Option ρ) : ByteArray × Int × Int × Unit → Option ρ :=
  fun (v2, v3, v4, _) =>
  (bif decide ((v4 : Int) < v3) then
  (sat v2 v4).bind fun c5 =>
  (bif (!((((decide ((c5 : Int) ≥ 97)) && (decide ((c5 : Int) ≤ 122))) || ((decide ((c5 : Int) ≥ 65)) && (decide ((c5 : Int) ≤ 90)))) || ((c5 : Int) == 95))) && ((((v4 : Int) == 0) || (decide ((c5 : Int) < 48))) || (decide ((c5 : Int) > 57))) then kr (false, ())
  else rec (v2, v3, IntKind.wrap .i64 (v4 + 1), ()))
  else kx (()))

noncomputable def F_q72z_s0 {ρ : Type} (n : Nat) (kr : Bool × Unit → Option ρ) : Int → Int → Unit → (Unit → Option ρ) → Option ρ :=
  fun v4 c5 (_) rec =>
  (bif (!((((decide ((c5 : Int) ≥ 97)) && (decide ((c5 : Int) ≤ 122))) || ((decide ((c5 : Int) ≥ 65)) && (decide ((c5 : Int) ≤ 90)))) || ((c5 : Int) == 95))) && ((((v4 : Int) == 0) || (decide ((c5 : Int) < 48))) || (decide ((c5 : Int) > 57))) then kr (false, ())
  else rec (()))

theorem R_q72z_s0 {ρ : Type} (n : Nat) (kx : Unit → Option ρ) (kr : Bool × Unit → Option ρ) (l : ByteArray) (fuel : Nat) (hl : l.size ≤ 4611686018427387904) (hf : l.size < fuel) :
    iterN (fun rc => q72z_s0 n rc kx kr) fuel (l, (l.size : Int), 0, ()) = foldK (F_q72z_s0 n kr) (fun (_) => kx (())) 0 (bi l.data.toList) (()) :=
  range_str l (fun i (_) => (l, (l.size : Int), i, ())) _ _ _ (fun rec i s => rfl) hl fuel (()) hf

noncomputable def q72z (n : Nat) : ByteArray × Unit → Option (Bool × Unit) :=
  fun (a1, _) =>
  (bif (seq a1 (⟨#[]⟩ : ByteArray)) || (decide (((a1.size : Int) : Int) > 12)) then some (false, ())
  else
  iterN (fun rc7 => q72z_s0 n rc7 (fun (_) => some (true, ())) (fun (v6, _) => some (v6, ()))) (n) (a1, (a1.size : Int), 0, ()))

noncomputable def q61z_s0 {ρ : Type} (n : Nat) (rec : (List ByteArray) × (List ByteArray) × Int × Int × Unit → Option ρ) (kx : Unit → Option ρ) (kr : Int × Unit → Option ρ) : (List ByteArray) × (List ByteArray) × Int × Int × Unit → Option ρ :=
  fun (v2, v3, v4, v5, _) =>
  (bif decide ((v5 : Int) < v4) then
  (ix v3 v5).bind fun x6 =>
  (q72z n (x6, ())).bind fun (y7, _) =>
  (bif !y7 then kr (6, ())
  else
  (bif decide ((v5 : Int) > 0) then
  (ix v2 (IntKind.wrap .i64 (v5 - 1))).bind fun x8 =>
  (bif !(sless x8 x6) then kr (6, ())
  else rec (v2, v3, v4, IntKind.wrap .i64 (v5 + 1), ()))
  else rec (v2, v3, v4, IntKind.wrap .i64 (v5 + 1), ())))
  else kx (()))

noncomputable def F_q61z_s0 {ρ : Type} (n : Nat) (kr : Int × Unit → Option ρ) : Int → ByteArray → ((List ByteArray) × Unit) → (((List ByteArray) × Unit) → Option ρ) → Option ρ :=
  fun v5 x6 (v2, _) rec =>
  (q72z n (x6, ())).bind fun (y7, _) =>
  (bif !y7 then kr (6, ())
  else
  (bif decide ((v5 : Int) > 0) then
  (ix v2 (IntKind.wrap .i64 (v5 - 1))).bind fun x8 =>
  (bif !(sless x8 x6) then kr (6, ())
  else rec (v2, ()))
  else rec (v2, ())))

theorem R_q61z_s0 {ρ : Type} (n : Nat) (kx : Unit → Option ρ) (kr : Int × Unit → Option ρ) (l : List ByteArray) (fuel : Nat) (v2 : List ByteArray) (hl : l.length ≤ 9223372036854775807) (hf : l.length < fuel) :
    iterN (fun rc => q61z_s0 n rc kx kr) fuel (v2, l, (l.length : Int), 0, ()) = foldK (F_q61z_s0 n kr) (fun (v2, _) => kx (())) 0 l (v2, ()) :=
  range_listM l (fun i (v2, _) => (v2, l, (l.length : Int), i, ())) _ _ _ (fun rec i s => rfl) hl fuel (v2, ()) hf

noncomputable def q61z (n : Nat) : (List ByteArray) × Unit → Option (Int × Unit) :=
  fun (a1, _) =>
  (bif decide (((a1.length : Int) : Int) > 4) then some (2, ())
  else
  iterN (fun rc10 => q61z_s0 n rc10 (fun (_) => some (0, ())) (fun (v9, _) => some (v9, ()))) (n) (a1, a1, (a1.length : Int), 0, ()))

noncomputable def q68z_s1 {ρ : Type} (self_q68z : Ev.Val × Int × Unit → Option (Int × Unit)) (n : Nat) (rec : Int × (List Ev.Val) × Int × Int × (Ev.Val × Unit) × Unit → Option ρ) (kx : (Ev.Val × Unit) × Unit → Option ρ) (kr : Int × Unit → Option ρ) : Int × (List Ev.Val) × Int × Int × (Ev.Val × Unit) × Unit → Option ρ :=
  fun (v4, v5, v6, v7, o8, _) =>
  (bif decide ((v7 : Int) < v6) then
  (ix v5 v7).bind fun x9 =>
  (self_q68z ((Ev.Val.mk x9.kind x9.n x9.s x9.l), IntKind.wrap .i64 (v4 + 1), ())).bind fun (y10, _) =>
  (bif (y10 : Int) != 0 then kr (y10, ())
  else rec (v4, v5, v6, IntKind.wrap .i64 (v7 + 1), ((Ev.Val.mk o8.1.kind o8.1.n o8.1.s o8.1.l), ()), ()))
  else kx (((Ev.Val.mk o8.1.kind o8.1.n o8.1.s o8.1.l), ()), ()))

noncomputable def F_q68z_s1 {ρ : Type} (self_q68z : Ev.Val × Int × Unit → Option (Int × Unit)) (n : Nat) (kr : Int × Unit → Option ρ) : Int → Ev.Val → (Int × (Ev.Val × Unit) × Unit) → ((Int × (Ev.Val × Unit) × Unit) → Option ρ) → Option ρ :=
  fun v7 x9 (v4, o8, _) rec =>
  (self_q68z ((Ev.Val.mk x9.kind x9.n x9.s x9.l), IntKind.wrap .i64 (v4 + 1), ())).bind fun (y10, _) =>
  (bif (y10 : Int) != 0 then kr (y10, ())
  else rec (v4, ((Ev.Val.mk o8.1.kind o8.1.n o8.1.s o8.1.l), ()), ()))

theorem R_q68z_s1 {ρ : Type} (self_q68z : Ev.Val × Int × Unit → Option (Int × Unit)) (n : Nat) (kx : (Ev.Val × Unit) × Unit → Option ρ) (kr : Int × Unit → Option ρ) (l : List Ev.Val) (fuel : Nat) (v4 : Int) (o8 : Ev.Val × Unit) (hl : l.length ≤ 9223372036854775807) (hf : l.length < fuel) :
    iterN (fun rc => q68z_s1 self_q68z n rc kx kr) fuel (v4, l, (l.length : Int), 0, o8, ()) = foldK (F_q68z_s1 self_q68z n kr) (fun (v4, o8, _) => kx (((Ev.Val.mk o8.1.kind o8.1.n o8.1.s o8.1.l), ()), ())) 0 l (v4, o8, ()) :=
  range_listM l (fun i (v4, o8, _) => (v4, l, (l.length : Int), i, o8, ())) _ _ _ (fun rec i s => rfl) hl fuel (v4, o8, ()) hf

noncomputable def q68z_b (self_q68z : Ev.Val × Int × Unit → Option (Int × Unit)) (n : Nat) : Ev.Val × Int × Unit → Option (Int × Unit) :=
  fun (a1, a2, _) =>
  (bif (a1.kind : Int) == 0 then
  (bif !((((a1.n : Int) == 0) && (seq a1.s (⟨#[]⟩ : ByteArray))) && (((a1.l.length : Int) : Int) == 0)) then some (6, ())
  else some (0, ()))
  else
  (bif (a1.kind : Int) == 1 then
  (bif !(((((a1.n : Int) == 0) || ((a1.n : Int) == 1)) && (seq a1.s (⟨#[]⟩ : ByteArray))) && (((a1.l.length : Int) : Int) == 0)) then some (6, ())
  else some (0, ()))
  else
  (bif (a1.kind : Int) == 2 then
  (bif !((seq a1.s (⟨#[]⟩ : ByteArray)) && (((a1.l.length : Int) : Int) == 0)) then some (6, ())
  else some (0, ()))
  else
  (bif (a1.kind : Int) == 3 then
  (bif decide (((a1.s.size : Int) : Int) > 4000) then some (2, ())
  else
  (bif (a1.n : Int) == 0 then
  (validN (a1.s, ())).bind fun (y3, _) =>
  (bif !(y3 && (((a1.l.length : Int) : Int) == 0)) then some (6, ())
  else some (0, ()))
  else some (6, ())))
  else
  (bif (a1.kind : Int) == 4 then
  (bif (decide (((a1.l.length : Int) : Int) > 30)) || (decide ((a2 : Int) > 6)) then some (2, ())
  else
  iterN (fun rc13 => q68z_s1 self_q68z n rc13 (fun (o11, _) =>
  (bif !(((o11.1.n : Int) == 0) && (seq o11.1.s (⟨#[]⟩ : ByteArray))) then some (6, ())
  else some (0, ()))) (fun (v12, _) => some (v12, ()))) (n) (a2, a1.l, (a1.l.length : Int), 0, ((Ev.Val.mk a1.kind a1.n a1.s a1.l), ()), ()))
  else some (6, ()))))))

noncomputable def q68z : Nat → Ev.Val × Int × Unit → Option (Int × Unit)
  | 0, _ => none
  | n + 1, x => q68z_b (q68z n) n x

noncomputable def q66z (n : Nat) : Ev.Val × Unit → Option (Int × Unit) :=
  fun (a1, _) =>
  (q68z n ((Ev.Val.mk a1.kind a1.n a1.s a1.l), 1, ())).bind fun (y2, _) => some (y2, ())

noncomputable def q63z_s0 {ρ : Type} (n : Nat) (rec : (List Ev.Prp) × (List Ev.Prp) × Int × Int × Unit → Option ρ) (kx : Unit → Option ρ) (kr : Int × Unit → Option ρ) : (List Ev.Prp) × (List Ev.Prp) × Int × Int × Unit → Option ρ :=
  fun (v2, v3, v4, v5, _) =>
  (bif decide ((v5 : Int) < v4) then
  (ix v3 v5).bind fun x6 =>
  (q72z n (x6.name, ())).bind fun (y8, _) =>
  (bif !y8 then kr (6, ())
  else
  (bif decide ((v5 : Int) > 0) then
  (ix v2 (IntKind.wrap .i64 (v5 - 1))).bind fun x9 =>
  (bif (!(sless x9.name x6.name)) || ((x6.val.kind : Int) == 0) then kr (6, ())
  else
  (q66z n ((Ev.Val.mk x6.val.kind x6.val.n x6.val.s x6.val.l), ())).bind fun (y10, _) =>
  (bif (y10 : Int) != 0 then kr (y10, ())
  else rec (v2, v3, v4, IntKind.wrap .i64 (v5 + 1), ())))
  else
  (bif (x6.val.kind : Int) == 0 then kr (6, ())
  else
  (q66z n ((Ev.Val.mk x6.val.kind x6.val.n x6.val.s x6.val.l), ())).bind fun (y11, _) =>
  (bif (y11 : Int) != 0 then kr (y11, ())
  else rec (v2, v3, v4, IntKind.wrap .i64 (v5 + 1), ())))))
  else kx (()))

noncomputable def F_q63z_s0 {ρ : Type} (n : Nat) (kr : Int × Unit → Option ρ) : Int → Ev.Prp → ((List Ev.Prp) × Unit) → (((List Ev.Prp) × Unit) → Option ρ) → Option ρ :=
  fun v5 x6 (v2, _) rec =>
  (q72z n (x6.name, ())).bind fun (y8, _) =>
  (bif !y8 then kr (6, ())
  else
  (bif decide ((v5 : Int) > 0) then
  (ix v2 (IntKind.wrap .i64 (v5 - 1))).bind fun x9 =>
  (bif (!(sless x9.name x6.name)) || ((x6.val.kind : Int) == 0) then kr (6, ())
  else
  (q66z n ((Ev.Val.mk x6.val.kind x6.val.n x6.val.s x6.val.l), ())).bind fun (y10, _) =>
  (bif (y10 : Int) != 0 then kr (y10, ())
  else rec (v2, ())))
  else
  (bif (x6.val.kind : Int) == 0 then kr (6, ())
  else
  (q66z n ((Ev.Val.mk x6.val.kind x6.val.n x6.val.s x6.val.l), ())).bind fun (y11, _) =>
  (bif (y11 : Int) != 0 then kr (y11, ())
  else rec (v2, ())))))

theorem R_q63z_s0 {ρ : Type} (n : Nat) (kx : Unit → Option ρ) (kr : Int × Unit → Option ρ) (l : List Ev.Prp) (fuel : Nat) (v2 : List Ev.Prp) (hl : l.length ≤ 9223372036854775807) (hf : l.length < fuel) :
    iterN (fun rc => q63z_s0 n rc kx kr) fuel (v2, l, (l.length : Int), 0, ()) = foldK (F_q63z_s0 n kr) (fun (v2, _) => kx (())) 0 l (v2, ()) :=
  range_listM l (fun i (v2, _) => (v2, l, (l.length : Int), i, ())) _ _ _ (fun rec i s => rfl) hl fuel (v2, ()) hf

noncomputable def q63z (n : Nat) : (List Ev.Prp) × Unit → Option (Int × Unit) :=
  fun (a1, _) =>
  (bif decide (((a1.length : Int) : Int) > 6) then some (2, ())
  else
  iterN (fun rc13 => q63z_s0 n rc13 (fun (_) => some (0, ())) (fun (v12, _) => some (v12, ()))) (n) (a1, a1, (a1.length : Int), 0, ()))

noncomputable def q46z_s0 {ρ : Type} (n : Nat) (rec : Int × (List Int) × Int × Int × Unit → Option ρ) (kx : Int × Unit → Option ρ) (kr : Int × Unit → Option ρ) : Int × (List Int) × Int × Int × Unit → Option ρ :=
  fun (v2, v3, v4, v5, _) =>
  (bif decide ((v5 : Int) < v4) then
  (ix v3 v5).bind fun x6 =>
  (bif (x6 : Int) != v2 then kr (x6, ())
  else rec (v2, v3, v4, IntKind.wrap .i64 (v5 + 1), ()))
  else kx (v2, ()))

noncomputable def F_q46z_s0 {ρ : Type} (n : Nat) (kr : Int × Unit → Option ρ) : Int → Int → (Int × Unit) → ((Int × Unit) → Option ρ) → Option ρ :=
  fun v5 x6 (v2, _) rec =>
  (bif (x6 : Int) != v2 then kr (x6, ())
  else rec (v2, ()))

theorem R_q46z_s0 {ρ : Type} (n : Nat) (kx : Int × Unit → Option ρ) (kr : Int × Unit → Option ρ) (l : List Int) (fuel : Nat) (v2 : Int) (hl : l.length ≤ 9223372036854775807) (hf : l.length < fuel) :
    iterN (fun rc => q46z_s0 n rc kx kr) fuel (v2, l, (l.length : Int), 0, ()) = foldK (F_q46z_s0 n kr) (fun (v2, _) => kx (v2, ())) 0 l (v2, ()) :=
  range_listM l (fun i (v2, _) => (v2, l, (l.length : Int), i, ())) _ _ _ (fun rec i s => rfl) hl fuel (v2, ()) hf

noncomputable def q46z (n : Nat) : (List Int) × Unit → Option (Int × Unit) :=
  fun (a1, _) =>
  iterN (fun rc9 => q46z_s0 n rc9 (fun (v7, _) => some (v7, ())) (fun (v8, _) => some (v8, ()))) (n) (0, a1, (a1.length : Int), 0, ())

noncomputable def q59z : Int × Unit → Option (Bool × Unit) :=
  fun (a1, _) => some ((a1 : Int) != a1, ())

noncomputable def q48z : Int × Int × Unit → Option (Int × Unit) :=
  fun (a1, a2, _) =>
  (q59z (a1, ())).bind fun (y3, _) =>
  (q59z (a2, ())).bind fun (y4, _) =>
  (bif y3 then
  (bif y4 then some (0, ())
  else some ((-1), ()))
  else
  (bif y4 then some (1, ())
  else
  (bif decide ((a1 : Int) < a2) then some ((-1), ())
  else
  (bif decide ((a1 : Int) > a2) then some (1, ())
  else some (0, ())))))

noncomputable def q60z : Ev.Node × Int × Unit → Option (Int × Unit) :=
  fun (a1, a2, _) =>
  (q48z (a1.id, a2, ())).bind fun (y3, _) => some (y3, ())

noncomputable def q11z_s0 {ρ : Type} (n : Nat) (rec : (List Ev.Node) × Int × Int × Int × Int × Unit → Option ρ) (kx : (List Ev.Node) × Int × Int × Int × Unit → Option ρ) (kr : Unit → Option ρ) : (List Ev.Node) × Int × Int × Int × Int × Unit → Option ρ :=
  fun (v3, v4, v5, v6, v7, _) =>
  (bif decide ((v6 : Int) < v7) then
  (ix v3 (IntKind.wrap .i64 (bshr .u64 (IntKind.wrap .u64 (IntKind.wrap .i64 (v6 + v7))) 1))).bind fun x8 =>
  (q60z ((Ev.Node.mk x8.id x8.labels x8.props), v4, ())).bind fun (y9, _) =>
  (bif decide ((y9 : Int) < 0) then rec (v3, v4, v5, IntKind.wrap .i64 ((IntKind.wrap .i64 (bshr .u64 (IntKind.wrap .u64 (IntKind.wrap .i64 (v6 + v7))) 1)) + 1), v7, ())
  else rec (v3, v4, v5, v6, IntKind.wrap .i64 (bshr .u64 (IntKind.wrap .u64 (IntKind.wrap .i64 (v6 + v7))) 1), ()))
  else kx (v3, v4, v5, v6, ()))

noncomputable def q11z (n : Nat) : (List Ev.Node) × Int × Unit → Option (Int × Bool × Unit) :=
  fun (a1, a2, _) =>
  iterN (fun rc16 => q11z_s0 n rc16 (fun (v10, v11, v12, v13, _) =>
  (bif decide ((v13 : Int) < v12) then
  (ix v10 v13).bind fun x14 =>
  (q60z ((Ev.Node.mk x14.id x14.labels x14.props), v11, ())).bind fun (y15, _) => some (v13, (y15 : Int) == 0, ())
  else some (v13, false, ()))) (fun (_) => none)) (n) (a1, a2, (a1.length : Int), 0, (a1.length : Int), ())

noncomputable def q71z (n : Nat) : Ev.Graph × Int × Unit → Option (Int × Unit) :=
  fun (a1, a2, _) =>
  (q11z n (a1.nodes, a2, ())).bind fun (y3, y4, _) =>
  (bif !y4 then some ((-1), ())
  else some (y3, ()))

noncomputable def q62z_s0 {ρ : Type} (n : Nat) (rec : Int × (List Ev.Node) × Int × Int × (Ev.Graph × Unit) × Unit → Option ρ) (kx : Int × (Ev.Graph × Unit) × Unit → Option ρ) (kr : Int × Unit → Option ρ) : Int × (List Ev.Node) × Int × Int × (Ev.Graph × Unit) × Unit → Option ρ :=
  fun (v2, v3, v4, v5, o6, _) =>
  (bif decide ((v5 : Int) < v4) then
  (ix v3 v5).bind fun x7 =>
  (bif decide ((x7.id : Int) ≤ v2) then kr (6, ())
  else
  (q61z n (x7.labels, ())).bind fun (y8, _) =>
  (q63z n (x7.props, ())).bind fun (y9, _) =>
  (q46z n (([y8, y9] : List Int), ())).bind fun (y10, _) =>
  (bif (y10 : Int) != 0 then kr (y10, ())
  else rec (x7.id, v3, v4, IntKind.wrap .i64 (v5 + 1), ((Ev.Graph.mk o6.1.nodes o6.1.edges o6.1.next), ()), ())))
  else kx (v2, ((Ev.Graph.mk o6.1.nodes o6.1.edges o6.1.next), ()), ()))

noncomputable def q62z_s2 {ρ : Type} (n : Nat) (rec : Int × Int × (List Ev.Edg) × Int × Int × (Ev.Graph × Unit) × Unit → Option ρ) (kx : Int × Int × (Ev.Graph × Unit) × Unit → Option ρ) (kr : Int × Unit → Option ρ) : Int × Int × (List Ev.Edg) × Int × Int × (Ev.Graph × Unit) × Unit → Option ρ :=
  fun (v14, v15, v16, v17, v18, o19, _) =>
  (bif decide ((v18 : Int) < v17) then
  (ix v16 v18).bind fun x20 =>
  (bif decide ((x20.id : Int) ≤ v14) then kr (6, ())
  else
  (q71z n ((Ev.Graph.mk o19.1.nodes o19.1.edges o19.1.next), x20.id, ())).bind fun (y21, _) =>
  (bif decide ((y21 : Int) ≥ 0) then kr (6, ())
  else
  (q72z n (x20.type, ())).bind fun (y22, _) =>
  (bif !y22 then kr (6, ())
  else
  (q71z n ((Ev.Graph.mk o19.1.nodes o19.1.edges o19.1.next), x20.src, ())).bind fun (y23, _) =>
  (bif decide ((y23 : Int) < 0) then kr (5, ())
  else
  (q71z n ((Ev.Graph.mk o19.1.nodes o19.1.edges o19.1.next), x20.dst, ())).bind fun (y24, _) =>
  (bif decide ((y24 : Int) < 0) then kr (5, ())
  else
  (q63z n (x20.props, ())).bind fun (y25, _) =>
  (bif (y25 : Int) != 0 then kr (y25, ())
  else rec (x20.id, v15, v16, v17, IntKind.wrap .i64 (v18 + 1), ((Ev.Graph.mk o19.1.nodes o19.1.edges o19.1.next), ()), ())))))))
  else kx (v14, v15, ((Ev.Graph.mk o19.1.nodes o19.1.edges o19.1.next), ()), ()))

noncomputable def F_q62z_s0 {ρ : Type} (n : Nat) (kr : Int × Unit → Option ρ) : Int → Ev.Node → (Int × (Ev.Graph × Unit) × Unit) → ((Int × (Ev.Graph × Unit) × Unit) → Option ρ) → Option ρ :=
  fun v5 x7 (v2, o6, _) rec =>
  (bif decide ((x7.id : Int) ≤ v2) then kr (6, ())
  else
  (q61z n (x7.labels, ())).bind fun (y8, _) =>
  (q63z n (x7.props, ())).bind fun (y9, _) =>
  (q46z n (([y8, y9] : List Int), ())).bind fun (y10, _) =>
  (bif (y10 : Int) != 0 then kr (y10, ())
  else rec (x7.id, ((Ev.Graph.mk o6.1.nodes o6.1.edges o6.1.next), ()), ())))

theorem R_q62z_s0 {ρ : Type} (n : Nat) (kx : Int × (Ev.Graph × Unit) × Unit → Option ρ) (kr : Int × Unit → Option ρ) (l : List Ev.Node) (fuel : Nat) (v2 : Int) (o6 : Ev.Graph × Unit) (hl : l.length ≤ 9223372036854775807) (hf : l.length < fuel) :
    iterN (fun rc => q62z_s0 n rc kx kr) fuel (v2, l, (l.length : Int), 0, o6, ()) = foldK (F_q62z_s0 n kr) (fun (v2, o6, _) => kx (v2, ((Ev.Graph.mk o6.1.nodes o6.1.edges o6.1.next), ()), ())) 0 l (v2, o6, ()) :=
  range_listM l (fun i (v2, o6, _) => (v2, l, (l.length : Int), i, o6, ())) _ _ _ (fun rec i s => rfl) hl fuel (v2, o6, ()) hf

noncomputable def F_q62z_s2 {ρ : Type} (n : Nat) (kr : Int × Unit → Option ρ) : Int → Ev.Edg → (Int × Int × (Ev.Graph × Unit) × Unit) → ((Int × Int × (Ev.Graph × Unit) × Unit) → Option ρ) → Option ρ :=
  fun v18 x20 (v14, v15, o19, _) rec =>
  (bif decide ((x20.id : Int) ≤ v14) then kr (6, ())
  else
  (q71z n ((Ev.Graph.mk o19.1.nodes o19.1.edges o19.1.next), x20.id, ())).bind fun (y21, _) =>
  (bif decide ((y21 : Int) ≥ 0) then kr (6, ())
  else
  (q72z n (x20.type, ())).bind fun (y22, _) =>
  (bif !y22 then kr (6, ())
  else
  (q71z n ((Ev.Graph.mk o19.1.nodes o19.1.edges o19.1.next), x20.src, ())).bind fun (y23, _) =>
  (bif decide ((y23 : Int) < 0) then kr (5, ())
  else
  (q71z n ((Ev.Graph.mk o19.1.nodes o19.1.edges o19.1.next), x20.dst, ())).bind fun (y24, _) =>
  (bif decide ((y24 : Int) < 0) then kr (5, ())
  else
  (q63z n (x20.props, ())).bind fun (y25, _) =>
  (bif (y25 : Int) != 0 then kr (y25, ())
  else rec (x20.id, v15, ((Ev.Graph.mk o19.1.nodes o19.1.edges o19.1.next), ()), ())))))))

theorem R_q62z_s2 {ρ : Type} (n : Nat) (kx : Int × Int × (Ev.Graph × Unit) × Unit → Option ρ) (kr : Int × Unit → Option ρ) (l : List Ev.Edg) (fuel : Nat) (v14 : Int) (v15 : Int) (o19 : Ev.Graph × Unit) (hl : l.length ≤ 9223372036854775807) (hf : l.length < fuel) :
    iterN (fun rc => q62z_s2 n rc kx kr) fuel (v14, v15, l, (l.length : Int), 0, o19, ()) = foldK (F_q62z_s2 n kr) (fun (v14, v15, o19, _) => kx (v14, v15, ((Ev.Graph.mk o19.1.nodes o19.1.edges o19.1.next), ()), ())) 0 l (v14, v15, o19, ()) :=
  range_listM l (fun i (v14, v15, o19, _) => (v14, v15, l, (l.length : Int), i, o19, ())) _ _ _ (fun rec i s => rfl) hl fuel (v14, v15, o19, ()) hf

noncomputable def q62z (n : Nat) : Ev.Graph × Unit → Option (Int × Unit) :=
  fun (a1, _) =>
  (bif (decide (((a1.nodes.length : Int) : Int) > 40)) || (decide (((a1.edges.length : Int) : Int) > 60)) then some (2, ())
  else
  iterN (fun rc31 => q62z_s0 n rc31 (fun (v11, o12, _) =>
  iterN (fun rc30 => q62z_s2 n rc30 (fun (v26, v27, o28, _) =>
  (bif (decide ((o28.1.next : Int) ≤ (if v26 > v27 then v26 else v27))) || (decide ((o28.1.next : Int) > 1099511627776)) then some (9, ())
  else some (0, ()))) (fun (v29, _) => some (v29, ()))) (n) (0, v11, o12.1.edges, (o12.1.edges.length : Int), 0, ((Ev.Graph.mk o12.1.nodes o12.1.edges o12.1.next), ()), ())) (fun (v13, _) => some (v13, ()))) (n) (0, a1.nodes, (a1.nodes.length : Int), 0, ((Ev.Graph.mk a1.nodes a1.edges a1.next), ()), ()))

noncomputable def q15z : (List Ev.Node) × Unit → Option ((List Ev.Node) × Unit) :=
  fun (a1, _) =>
  nilq a1 (some (([] : List Ev.Node), ())) (
  ck (room (([] : List Ev.Node) ++ a1).length 56) (some (([] : List Ev.Node) ++ a1, ())))

noncomputable def q17z_s0 {ρ : Type} (n : Nat) (rec : (List ByteArray) × (List ByteArray) × Int × Int × Unit → Option ρ) (kx : Unit → Option ρ) (kr : Bool × Unit → Option ρ) : (List ByteArray) × (List ByteArray) × Int × Int × Unit → Option ρ :=
  fun (v3, v4, v5, v6, _) =>
  (bif decide ((v6 : Int) < v5) then
  (ix v3 v6).bind fun x9 =>
  (ix v4 v6).bind fun x10 =>
  (bif !(seq x9 x10) then kr (false, ())
  else rec (v3, v4, v5, IntKind.wrap .i64 (v6 + 1), ()))
  else kx (()))

noncomputable def F_q17z_s0 {ρ : Type} (n : Nat) (kr : Bool × Unit → Option ρ) : Int → ByteArray → ((List ByteArray) × Unit) → (((List ByteArray) × Unit) → Option ρ) → Option ρ :=
  fun v6 x9 (v4, _) rec =>
  (ix v4 v6).bind fun x10 =>
  (bif !(seq x9 x10) then kr (false, ())
  else rec (v4, ()))

theorem R_q17z_s0 {ρ : Type} (n : Nat) (kx : Unit → Option ρ) (kr : Bool × Unit → Option ρ) (l : List ByteArray) (fuel : Nat) (v4 : List ByteArray) (hl : l.length ≤ 9223372036854775807) (hf : l.length < fuel) :
    iterN (fun rc => q17z_s0 n rc kx kr) fuel (l, v4, (l.length : Int), 0, ()) = foldK (F_q17z_s0 n kr) (fun (v4, _) => kx (())) 0 l (v4, ()) :=
  range_listM l (fun i (v4, _) => (l, v4, (l.length : Int), i, ())) _ _ _ (fun rec i s => rfl) hl fuel (v4, ()) hf

noncomputable def q17z (n : Nat) : (List ByteArray) × (List ByteArray) × Unit → Option (Bool × Unit) :=
  fun (a1, a2, _) =>
  (bif ((a1.length : Int) : Int) != (a2.length : Int) then some (false, ())
  else
  iterN (fun rc12 => q17z_s0 n rc12 (fun (_) => some (true, ())) (fun (v11, _) => some (v11, ()))) (n) (a1, a2, (a1.length : Int), 0, ()))

noncomputable def q47z : ByteArray × Unit → Option (Bool × Unit) :=
  fun (a1, _) => some (!(seq a1 a1), ())

noncomputable def q39z : ByteArray × ByteArray × Unit → Option (Int × Unit) :=
  fun (a1, a2, _) =>
  (q47z (a1, ())).bind fun (y3, _) =>
  (q47z (a2, ())).bind fun (y4, _) =>
  (bif y3 then
  (bif y4 then some (0, ())
  else some ((-1), ()))
  else
  (bif y4 then some (1, ())
  else
  (bif sless a1 a2 then some ((-1), ())
  else
  (bif !(sless a1 a2 || seq a1 a2) then some (1, ())
  else some (0, ())))))

noncomputable def q5z_s0 {ρ : Type} (self_q67z : Ev.Val × Ev.Val × Unit → Option (Int × Unit)) (n : Nat) (rec : (List Ev.Val) × (List Ev.Val) × (List Ev.Val) × Int × Int × Unit → Option ρ) (kx : (List Ev.Val) × (List Ev.Val) × Unit → Option ρ) (kr : Int × Unit → Option ρ) : (List Ev.Val) × (List Ev.Val) × (List Ev.Val) × Int × Int × Unit → Option ρ :=
  fun (v3, v4, v5, v6, v7, _) =>
  (bif decide ((v7 : Int) < v6) then
  (ix v5 v7).bind fun x8 =>
  (bif decide ((v7 : Int) ≥ (v4.length : Int)) then kr (1, ())
  else
  (ix v4 v7).bind fun x9 =>
  (self_q67z ((Ev.Val.mk x8.kind x8.n x8.s x8.l), (Ev.Val.mk x9.kind x9.n x9.s x9.l), ())).bind fun (y10, _) =>
  (bif (y10 : Int) != 0 then kr (y10, ())
  else rec (v3, v4, v5, v6, IntKind.wrap .i64 (v7 + 1), ())))
  else kx (v3, v4, ()))

noncomputable def F_q5z_s0 {ρ : Type} (self_q67z : Ev.Val × Ev.Val × Unit → Option (Int × Unit)) (n : Nat) (kr : Int × Unit → Option ρ) : Int → Ev.Val → ((List Ev.Val) × (List Ev.Val) × Unit) → (((List Ev.Val) × (List Ev.Val) × Unit) → Option ρ) → Option ρ :=
  fun v7 x8 (v3, v4, _) rec =>
  (bif decide ((v7 : Int) ≥ (v4.length : Int)) then kr (1, ())
  else
  (ix v4 v7).bind fun x9 =>
  (self_q67z ((Ev.Val.mk x8.kind x8.n x8.s x8.l), (Ev.Val.mk x9.kind x9.n x9.s x9.l), ())).bind fun (y10, _) =>
  (bif (y10 : Int) != 0 then kr (y10, ())
  else rec (v3, v4, ())))

theorem R_q5z_s0 {ρ : Type} (self_q67z : Ev.Val × Ev.Val × Unit → Option (Int × Unit)) (n : Nat) (kx : (List Ev.Val) × (List Ev.Val) × Unit → Option ρ) (kr : Int × Unit → Option ρ) (l : List Ev.Val) (fuel : Nat) (v3 : List Ev.Val) (v4 : List Ev.Val) (hl : l.length ≤ 9223372036854775807) (hf : l.length < fuel) :
    iterN (fun rc => q5z_s0 self_q67z n rc kx kr) fuel (v3, v4, l, (l.length : Int), 0, ()) = foldK (F_q5z_s0 self_q67z n kr) (fun (v3, v4, _) => kx (v3, v4, ())) 0 l (v3, v4, ()) :=
  range_listM l (fun i (v3, v4, _) => (v3, v4, l, (l.length : Int), i, ())) _ _ _ (fun rec i s => rfl) hl fuel (v3, v4, ()) hf

noncomputable def q5z (self_q67z : Ev.Val × Ev.Val × Unit → Option (Int × Unit)) (n : Nat) : (List Ev.Val) × (List Ev.Val) × Unit → Option (Int × Unit) :=
  fun (a1, a2, _) =>
  iterN (fun rc14 => q5z_s0 self_q67z n rc14 (fun (v11, v12, _) =>
  (bif decide (((v11.length : Int) : Int) < (v12.length : Int)) then some ((-1), ())
  else some (0, ()))) (fun (v13, _) => some (v13, ()))) (n) (a1, a2, a1, (a1.length : Int), 0, ())

noncomputable def q69z_s0 {ρ : Type} (n : Nat) (rec : Int × (List Int) × Int × Int × Unit → Option ρ) (kx : Int × Unit → Option ρ) (kr : Int × Unit → Option ρ) : Int × (List Int) × Int × Int × Unit → Option ρ :=
  fun (v2, v3, v4, v5, _) =>
  (bif decide ((v5 : Int) < v4) then
  (ix v3 v5).bind fun x6 =>
  (bif (x6 : Int) != v2 then kr (x6, ())
  else rec (v2, v3, v4, IntKind.wrap .i64 (v5 + 1), ()))
  else kx (v2, ()))

noncomputable def F_q69z_s0 {ρ : Type} (n : Nat) (kr : Int × Unit → Option ρ) : Int → Int → (Int × Unit) → ((Int × Unit) → Option ρ) → Option ρ :=
  fun v5 x6 (v2, _) rec =>
  (bif (x6 : Int) != v2 then kr (x6, ())
  else rec (v2, ()))

theorem R_q69z_s0 {ρ : Type} (n : Nat) (kx : Int × Unit → Option ρ) (kr : Int × Unit → Option ρ) (l : List Int) (fuel : Nat) (v2 : Int) (hl : l.length ≤ 9223372036854775807) (hf : l.length < fuel) :
    iterN (fun rc => q69z_s0 n rc kx kr) fuel (v2, l, (l.length : Int), 0, ()) = foldK (F_q69z_s0 n kr) (fun (v2, _) => kx (v2, ())) 0 l (v2, ()) :=
  range_listM l (fun i (v2, _) => (v2, l, (l.length : Int), i, ())) _ _ _ (fun rec i s => rfl) hl fuel (v2, ()) hf

noncomputable def q69z (n : Nat) : (List Int) × Unit → Option (Int × Unit) :=
  fun (a1, _) =>
  iterN (fun rc9 => q69z_s0 n rc9 (fun (v7, _) => some (v7, ())) (fun (v8, _) => some (v8, ()))) (n) (0, a1, (a1.length : Int), 0, ())

noncomputable def q67z_b (self_q67z : Ev.Val × Ev.Val × Unit → Option (Int × Unit)) (n : Nat) : Ev.Val × Ev.Val × Unit → Option (Int × Unit) :=
  fun (a1, a2, _) =>
  (q48z (a1.kind, a2.kind, ())).bind fun (y3, _) =>
  (bif (y3 : Int) != 0 then some (y3, ())
  else
  (q48z (a1.n, a2.n, ())).bind fun (y4, _) =>
  (q39z (a1.s, a2.s, ())).bind fun (y5, _) =>
  (q5z self_q67z n (a1.l, a2.l, ())).bind fun (y6, _) =>
  (q69z n (([y4, y5, y6] : List Int), ())).bind fun (y7, _) => some (y7, ()))

noncomputable def q67z : Nat → Ev.Val × Ev.Val × Unit → Option (Int × Unit)
  | 0, _ => none
  | n + 1, x => q67z_b (q67z n) n x

noncomputable def q44z (n : Nat) : Ev.Prp × Ev.Prp × Unit → Option (Bool × Unit) :=
  fun (a1, a2, _) =>
  (bif seq a1.name a2.name then
  (q67z n ((Ev.Val.mk a1.val.kind a1.val.n a1.val.s a1.val.l), (Ev.Val.mk a2.val.kind a2.val.n a2.val.s a2.val.l), ())).bind fun (y3, _) => some ((y3 : Int) == 0, ())
  else some (false, ()))

noncomputable def q6z_s0 {ρ : Type} (n : Nat) (rec : (List Ev.Prp) × (List Ev.Prp) × Int × Int × Unit → Option ρ) (kx : Unit → Option ρ) (kr : Bool × Unit → Option ρ) : (List Ev.Prp) × (List Ev.Prp) × Int × Int × Unit → Option ρ :=
  fun (v3, v4, v5, v6, _) =>
  (bif decide ((v6 : Int) < v5) then
  (ix v4 v6).bind fun x7 =>
  (ix v3 v6).bind fun x8 =>
  (q44z n ((Ev.Prp.mk x7.name (Ev.Val.mk x7.val.kind x7.val.n x7.val.s x7.val.l)), (Ev.Prp.mk x8.name (Ev.Val.mk x8.val.kind x8.val.n x8.val.s x8.val.l)), ())).bind fun (y9, _) =>
  (bif !y9 then kr (false, ())
  else rec (v3, v4, v5, IntKind.wrap .i64 (v6 + 1), ()))
  else kx (()))

noncomputable def F_q6z_s0 {ρ : Type} (n : Nat) (kr : Bool × Unit → Option ρ) : Int → Ev.Prp → ((List Ev.Prp) × Unit) → (((List Ev.Prp) × Unit) → Option ρ) → Option ρ :=
  fun v6 x7 (v3, _) rec =>
  (ix v3 v6).bind fun x8 =>
  (q44z n ((Ev.Prp.mk x7.name (Ev.Val.mk x7.val.kind x7.val.n x7.val.s x7.val.l)), (Ev.Prp.mk x8.name (Ev.Val.mk x8.val.kind x8.val.n x8.val.s x8.val.l)), ())).bind fun (y9, _) =>
  (bif !y9 then kr (false, ())
  else rec (v3, ()))

theorem R_q6z_s0 {ρ : Type} (n : Nat) (kx : Unit → Option ρ) (kr : Bool × Unit → Option ρ) (l : List Ev.Prp) (fuel : Nat) (v3 : List Ev.Prp) (hl : l.length ≤ 9223372036854775807) (hf : l.length < fuel) :
    iterN (fun rc => q6z_s0 n rc kx kr) fuel (v3, l, (l.length : Int), 0, ()) = foldK (F_q6z_s0 n kr) (fun (v3, _) => kx (())) 0 l (v3, ()) :=
  range_listM l (fun i (v3, _) => (v3, l, (l.length : Int), i, ())) _ _ _ (fun rec i s => rfl) hl fuel (v3, ()) hf

noncomputable def q6z (n : Nat) : (List Ev.Prp) × (List Ev.Prp) × Unit → Option (Bool × Unit) :=
  fun (a1, a2, _) =>
  (bif ((a1.length : Int) : Int) != (a2.length : Int) then some (false, ())
  else
  iterN (fun rc11 => q6z_s0 n rc11 (fun (_) => some (true, ())) (fun (v10, _) => some (v10, ()))) (n) (a2, a1, (a1.length : Int), 0, ()))

noncomputable def q51z (n : Nat) : (List Ev.Prp) × (List Ev.Prp) × Unit → Option (Bool × Unit) :=
  fun (a1, a2, _) =>
  (q6z n (a1, a2, ())).bind fun (y3, _) => some (y3, ())

noncomputable def q56z (n : Nat) : Ev.Node × Ev.Node × Unit → Option (Bool × Unit) :=
  fun (a1, a2, _) =>
  (bif (a1.id : Int) == a2.id then
  (q17z n (a1.labels, a2.labels, ())).bind fun (y3, _) =>
  (bif y3 then
  (q51z n (a1.props, a2.props, ())).bind fun (y4, _) => some (y4, ())
  else some (false, ()))
  else some (false, ()))

noncomputable def q30z (n : Nat) : Ev.Node × Unit × (Ev.Node × Unit) × Unit → Option (Bool × Unit × (Ev.Node × Unit) × Unit) :=
  fun (a1, o2, o3, _) =>
  (q56z n ((Ev.Node.mk o3.1.id o3.1.labels o3.1.props), (Ev.Node.mk a1.id a1.labels a1.props), ())).bind fun (y4, _) => some (y4, (()), ((Ev.Node.mk o3.1.id o3.1.labels o3.1.props), ()), ())

noncomputable def q10z_s0 {ρ : Type} (n : Nat) (rec : Int × Int × Unit × (Ev.Node × Unit) × (List Ev.Node) × Unit → Option ρ) (kx : Unit × (Ev.Node × Unit) × (List Ev.Node) × Unit → Option ρ) (kr : Int × Unit × (Ev.Node × Unit) × (List Ev.Node) × Unit → Option ρ) : Int × Int × Unit × (Ev.Node × Unit) × (List Ev.Node) × Unit → Option ρ :=
  fun (v4, v5, o6, o7, o8, _) =>
  (bif decide ((v5 : Int) < v4) then
  (ix o8 v5).bind fun _ =>
  ((o8)[(v5 : Int).toNat]?).bind fun e9 =>
  (q30z n ((Ev.Node.mk e9.id e9.labels e9.props), (()), ((Ev.Node.mk o7.1.id o7.1.labels o7.1.props), ()), ())).bind fun (y10, o11, o12, _) =>
  (bif y10 then kr (v5, (()), ((Ev.Node.mk o12.1.id o12.1.labels o12.1.props), ()), o8, ())
  else rec (v4, IntKind.wrap .i64 (v5 + 1), (()), ((Ev.Node.mk o12.1.id o12.1.labels o12.1.props), ()), o8, ()))
  else kx ((()), ((Ev.Node.mk o7.1.id o7.1.labels o7.1.props), ()), o8, ()))

noncomputable def q10z (n : Nat) : (List Ev.Node) × Unit × (Ev.Node × Unit) × Unit → Option (Int × (List Ev.Node) × Unit × (Ev.Node × Unit) × Unit) :=
  fun (o1, o2, o3, _) =>
  iterN (fun rc20 => q10z_s0 n rc20 (fun (o13, o14, o15, _) => some ((-1), o15, (()), ((Ev.Node.mk o14.1.id o14.1.labels o14.1.props), ()), ())) (fun (v16, o17, o18, o19, _) => some (v16, o19, (()), ((Ev.Node.mk o18.1.id o18.1.labels o18.1.props), ()), ()))) (n) ((o1.length : Int), 0, (()), ((Ev.Node.mk o3.1.id o3.1.labels o3.1.props), ()), o1, ())

noncomputable def q73z : Ev.Node × Unit → Option (Int × Unit) :=
  fun (a1, _) => some (a1.id, ())

noncomputable def q31z : Ev.Node × Int × Unit × Unit → Option (Int × Unit × Unit) :=
  fun (a1, a2, o3, _) =>
  (q73z ((Ev.Node.mk a1.id a1.labels a1.props), ())).bind fun (y4, _) =>
  (q48z (y4, a2, ())).bind fun (y5, _) => some (y5, (()), ())

noncomputable def q4z_s0 {ρ : Type} (n : Nat) (rec : Int × Int × Int × Int × Unit × (List Ev.Node) × Unit → Option ρ) (kx : Int × Int × Int × Unit × (List Ev.Node) × Unit → Option ρ) (kr : Unit → Option ρ) : Int × Int × Int × Int × Unit × (List Ev.Node) × Unit → Option ρ :=
  fun (v4, v5, v6, v7, o8, o9, _) =>
  (bif decide ((v6 : Int) < v7) then
  (ix o9 (IntKind.wrap .i64 (bshr .u64 (IntKind.wrap .u64 (IntKind.wrap .i64 (v6 + v7))) 1))).bind fun _ =>
  ((o9)[(IntKind.wrap .i64 (bshr .u64 (IntKind.wrap .u64 (IntKind.wrap .i64 (v6 + v7))) 1) : Int).toNat]?).bind fun e10 =>
  (q31z ((Ev.Node.mk e10.id e10.labels e10.props), v4, (()), ())).bind fun (y11, o12, _) =>
  (bif decide ((y11 : Int) < 0) then rec (v4, v5, IntKind.wrap .i64 ((IntKind.wrap .i64 (bshr .u64 (IntKind.wrap .u64 (IntKind.wrap .i64 (v6 + v7))) 1)) + 1), v7, (()), o9, ())
  else rec (v4, v5, v6, IntKind.wrap .i64 (bshr .u64 (IntKind.wrap .u64 (IntKind.wrap .i64 (v6 + v7))) 1), (()), o9, ()))
  else kx (v4, v5, v6, (()), o9, ()))

noncomputable def q4z (n : Nat) : Int × (List Ev.Node) × Unit × Unit → Option (Int × Bool × (List Ev.Node) × Unit × Unit) :=
  fun (a1, o2, o3, _) =>
  iterN (fun rc21 => q4z_s0 n rc21 (fun (v13, v14, v15, o16, o17, _) =>
  (bif decide ((v15 : Int) < v14) then
  (ix o17 v15).bind fun _ =>
  ((o17)[(v15 : Int).toNat]?).bind fun e18 =>
  (q31z ((Ev.Node.mk e18.id e18.labels e18.props), v13, (()), ())).bind fun (y19, o20, _) => some (v15, (y19 : Int) == 0, o17, (()), ())
  else some (v15, false, o17, (()), ()))) (fun (_) => none)) (n) (a1, (o2.length : Int), 0, (o2.length : Int), (()), o2, ())

noncomputable def q13z_s0 {ρ : Type} (n : Nat) (rec : (List Ev.Node) × (List Ev.Node) × Int × Int × Unit × Unit × (List Ev.Node) × Unit → Option ρ) (kx : (List Ev.Node) × Unit × (List Ev.Node) × Unit → Option ρ) (kr : (List Ev.Node) × Bool × Unit → Option ρ) : (List Ev.Node) × (List Ev.Node) × Int × Int × Unit × Unit × (List Ev.Node) × Unit → Option ρ :=
  fun (v5, v6, v7, v8, o9, o10, o11, _) =>
  (bif decide ((v8 : Int) < v7) then
  (ix v6 v8).bind fun x12 =>
  (q10z n (o11, (()), ((Ev.Node.mk x12.id x12.labels x12.props), ()), ())).bind fun (y13, o14, o15, o16, _) =>
  (bif decide ((y13 : Int) < 0) then kr (([] : List Ev.Node), false, ())
  else
  (delN (y13, IntKind.wrap .i64 (y13 + 1), o14, ())).bind fun (o17, _) => rec (v5, v6, v7, IntKind.wrap .i64 (v8 + 1), (()), (()), o17, ()))
  else kx (v5, (()), o11, ()))

noncomputable def q13z_s2 {ρ : Type} (n : Nat) (rec : (List Ev.Node) × Int × Int × Unit × (List Ev.Node) × Unit → Option ρ) (kx : (List Ev.Node) × Unit → Option ρ) (kr : (List Ev.Node) × Bool × Unit → Option ρ) : (List Ev.Node) × Int × Int × Unit × (List Ev.Node) × Unit → Option ρ :=
  fun (v23, v24, v25, o26, o27, _) =>
  (bif decide ((v25 : Int) < v24) then
  (ix v23 v25).bind fun x28 =>
  (q73z ((Ev.Node.mk x28.id x28.labels x28.props), ())).bind fun (y29, _) =>
  (q4z n (y29, o27, (()), ())).bind fun (y30, y31, o32, o33, _) =>
  (bif y31 then kr (([] : List Ev.Node), false, ())
  else
  (insN (y30, o32, ([(Ev.Node.mk x28.id x28.labels x28.props)] : List Ev.Node), ())).bind fun (o34, o35, _) => rec (v23, v24, IntKind.wrap .i64 (v25 + 1), (()), o34, ()))
  else kx (o27, ()))

noncomputable def F_q13z_s0 {ρ : Type} (n : Nat) (kr : (List Ev.Node) × Bool × Unit → Option ρ) : Int → Ev.Node → ((List Ev.Node) × Unit × Unit × (List Ev.Node) × Unit) → (((List Ev.Node) × Unit × Unit × (List Ev.Node) × Unit) → Option ρ) → Option ρ :=
  fun v8 x12 (v5, o9, o10, o11, _) rec =>
  (q10z n (o11, (()), ((Ev.Node.mk x12.id x12.labels x12.props), ()), ())).bind fun (y13, o14, o15, o16, _) =>
  (bif decide ((y13 : Int) < 0) then kr (([] : List Ev.Node), false, ())
  else
  (delN (y13, IntKind.wrap .i64 (y13 + 1), o14, ())).bind fun (o17, _) => rec (v5, (()), (()), o17, ()))

theorem R_q13z_s0 {ρ : Type} (n : Nat) (kx : (List Ev.Node) × Unit × (List Ev.Node) × Unit → Option ρ) (kr : (List Ev.Node) × Bool × Unit → Option ρ) (l : List Ev.Node) (fuel : Nat) (v5 : List Ev.Node) (o9 : Unit) (o10 : Unit) (o11 : List Ev.Node) (hl : l.length ≤ 9223372036854775807) (hf : l.length < fuel) :
    iterN (fun rc => q13z_s0 n rc kx kr) fuel (v5, l, (l.length : Int), 0, o9, o10, o11, ()) = foldK (F_q13z_s0 n kr) (fun (v5, o9, o10, o11, _) => kx (v5, (()), o11, ())) 0 l (v5, o9, o10, o11, ()) :=
  range_listM l (fun i (v5, o9, o10, o11, _) => (v5, l, (l.length : Int), i, o9, o10, o11, ())) _ _ _ (fun rec i s => rfl) hl fuel (v5, o9, o10, o11, ()) hf

noncomputable def F_q13z_s2 {ρ : Type} (n : Nat) (kr : (List Ev.Node) × Bool × Unit → Option ρ) : Int → Ev.Node → (Unit × (List Ev.Node) × Unit) → ((Unit × (List Ev.Node) × Unit) → Option ρ) → Option ρ :=
  fun v25 x28 (o26, o27, _) rec =>
  (q73z ((Ev.Node.mk x28.id x28.labels x28.props), ())).bind fun (y29, _) =>
  (q4z n (y29, o27, (()), ())).bind fun (y30, y31, o32, o33, _) =>
  (bif y31 then kr (([] : List Ev.Node), false, ())
  else
  (insN (y30, o32, ([(Ev.Node.mk x28.id x28.labels x28.props)] : List Ev.Node), ())).bind fun (o34, o35, _) => rec ((()), o34, ()))

theorem R_q13z_s2 {ρ : Type} (n : Nat) (kx : (List Ev.Node) × Unit → Option ρ) (kr : (List Ev.Node) × Bool × Unit → Option ρ) (l : List Ev.Node) (fuel : Nat) (o26 : Unit) (o27 : List Ev.Node) (hl : l.length ≤ 9223372036854775807) (hf : l.length < fuel) :
    iterN (fun rc => q13z_s2 n rc kx kr) fuel (l, (l.length : Int), 0, o26, o27, ()) = foldK (F_q13z_s2 n kr) (fun (o26, o27, _) => kx (o27, ())) 0 l (o26, o27, ()) :=
  range_listM l (fun i (o26, o27, _) => (l, (l.length : Int), i, o26, o27, ())) _ _ _ (fun rec i s => rfl) hl fuel (o26, o27, ()) hf

noncomputable def q13z (n : Nat) : (List Ev.Node) × (List Ev.Node) × (List Ev.Node) × Unit → Option ((List Ev.Node) × Bool × Unit) :=
  fun (a1, a2, a3, _) =>
  (q15z (a1, ())).bind fun (o4, _) =>
  iterN (fun rc40 => q13z_s0 n rc40 (fun (v18, o19, o20, _) =>
  iterN (fun rc39 => q13z_s2 n rc39 (fun (o36, _) => some (o36, true, ())) (fun (v37, v38, _) => some (v37, v38, ()))) (n) (v18, (v18.length : Int), 0, (()), o20, ())) (fun (v21, v22, _) => some (v21, v22, ()))) (n) (a3, a2, (a2.length : Int), 0, (()), (()), o4, ())

noncomputable def q14z : (List Ev.Edg) × Unit → Option ((List Ev.Edg) × Unit) :=
  fun (a1, _) =>
  nilq a1 (some (([] : List Ev.Edg), ())) (
  ck (room (([] : List Ev.Edg) ++ a1).length 64) (some (([] : List Ev.Edg) ++ a1, ())))

noncomputable def q55z (n : Nat) : Ev.Edg × Ev.Edg × Unit → Option (Bool × Unit) :=
  fun (a1, a2, _) =>
  (bif ((((a1.id : Int) == a2.id) && ((a1.src : Int) == a2.src)) && ((a1.dst : Int) == a2.dst)) && (seq a1.type a2.type) then
  (q51z n (a1.props, a2.props, ())).bind fun (y3, _) => some (y3, ())
  else some (false, ()))

noncomputable def q28z (n : Nat) : Ev.Edg × Unit × (Ev.Edg × Unit) × Unit → Option (Bool × Unit × (Ev.Edg × Unit) × Unit) :=
  fun (a1, o2, o3, _) =>
  (q55z n ((Ev.Edg.mk o3.1.id o3.1.src o3.1.dst o3.1.type o3.1.props), (Ev.Edg.mk a1.id a1.src a1.dst a1.type a1.props), ())).bind fun (y4, _) => some (y4, (()), ((Ev.Edg.mk o3.1.id o3.1.src o3.1.dst o3.1.type o3.1.props), ()), ())

noncomputable def q8z_s0 {ρ : Type} (n : Nat) (rec : Int × Int × Unit × (Ev.Edg × Unit) × (List Ev.Edg) × Unit → Option ρ) (kx : Unit × (Ev.Edg × Unit) × (List Ev.Edg) × Unit → Option ρ) (kr : Int × Unit × (Ev.Edg × Unit) × (List Ev.Edg) × Unit → Option ρ) : Int × Int × Unit × (Ev.Edg × Unit) × (List Ev.Edg) × Unit → Option ρ :=
  fun (v4, v5, o6, o7, o8, _) =>
  (bif decide ((v5 : Int) < v4) then
  (ix o8 v5).bind fun _ =>
  ((o8)[(v5 : Int).toNat]?).bind fun e9 =>
  (q28z n ((Ev.Edg.mk e9.id e9.src e9.dst e9.type e9.props), (()), ((Ev.Edg.mk o7.1.id o7.1.src o7.1.dst o7.1.type o7.1.props), ()), ())).bind fun (y10, o11, o12, _) =>
  (bif y10 then kr (v5, (()), ((Ev.Edg.mk o12.1.id o12.1.src o12.1.dst o12.1.type o12.1.props), ()), o8, ())
  else rec (v4, IntKind.wrap .i64 (v5 + 1), (()), ((Ev.Edg.mk o12.1.id o12.1.src o12.1.dst o12.1.type o12.1.props), ()), o8, ()))
  else kx ((()), ((Ev.Edg.mk o7.1.id o7.1.src o7.1.dst o7.1.type o7.1.props), ()), o8, ()))

noncomputable def q8z (n : Nat) : (List Ev.Edg) × Unit × (Ev.Edg × Unit) × Unit → Option (Int × (List Ev.Edg) × Unit × (Ev.Edg × Unit) × Unit) :=
  fun (o1, o2, o3, _) =>
  iterN (fun rc20 => q8z_s0 n rc20 (fun (o13, o14, o15, _) => some ((-1), o15, (()), ((Ev.Edg.mk o14.1.id o14.1.src o14.1.dst o14.1.type o14.1.props), ()), ())) (fun (v16, o17, o18, o19, _) => some (v16, o19, (()), ((Ev.Edg.mk o18.1.id o18.1.src o18.1.dst o18.1.type o18.1.props), ()), ()))) (n) ((o1.length : Int), 0, (()), ((Ev.Edg.mk o3.1.id o3.1.src o3.1.dst o3.1.type o3.1.props), ()), o1, ())

noncomputable def q74z : Ev.Edg × Unit → Option (Int × Unit) :=
  fun (a1, _) => some (a1.id, ())

noncomputable def q29z : Ev.Edg × Int × Unit × Unit → Option (Int × Unit × Unit) :=
  fun (a1, a2, o3, _) =>
  (q74z ((Ev.Edg.mk a1.id a1.src a1.dst a1.type a1.props), ())).bind fun (y4, _) =>
  (q48z (y4, a2, ())).bind fun (y5, _) => some (y5, (()), ())

noncomputable def q3z_s0 {ρ : Type} (n : Nat) (rec : Int × Int × Int × Int × Unit × (List Ev.Edg) × Unit → Option ρ) (kx : Int × Int × Int × Unit × (List Ev.Edg) × Unit → Option ρ) (kr : Unit → Option ρ) : Int × Int × Int × Int × Unit × (List Ev.Edg) × Unit → Option ρ :=
  fun (v4, v5, v6, v7, o8, o9, _) =>
  (bif decide ((v6 : Int) < v7) then
  (ix o9 (IntKind.wrap .i64 (bshr .u64 (IntKind.wrap .u64 (IntKind.wrap .i64 (v6 + v7))) 1))).bind fun _ =>
  ((o9)[(IntKind.wrap .i64 (bshr .u64 (IntKind.wrap .u64 (IntKind.wrap .i64 (v6 + v7))) 1) : Int).toNat]?).bind fun e10 =>
  (q29z ((Ev.Edg.mk e10.id e10.src e10.dst e10.type e10.props), v4, (()), ())).bind fun (y11, o12, _) =>
  (bif decide ((y11 : Int) < 0) then rec (v4, v5, IntKind.wrap .i64 ((IntKind.wrap .i64 (bshr .u64 (IntKind.wrap .u64 (IntKind.wrap .i64 (v6 + v7))) 1)) + 1), v7, (()), o9, ())
  else rec (v4, v5, v6, IntKind.wrap .i64 (bshr .u64 (IntKind.wrap .u64 (IntKind.wrap .i64 (v6 + v7))) 1), (()), o9, ()))
  else kx (v4, v5, v6, (()), o9, ()))

noncomputable def q3z (n : Nat) : Int × (List Ev.Edg) × Unit × Unit → Option (Int × Bool × (List Ev.Edg) × Unit × Unit) :=
  fun (a1, o2, o3, _) =>
  iterN (fun rc21 => q3z_s0 n rc21 (fun (v13, v14, v15, o16, o17, _) =>
  (bif decide ((v15 : Int) < v14) then
  (ix o17 v15).bind fun _ =>
  ((o17)[(v15 : Int).toNat]?).bind fun e18 =>
  (q29z ((Ev.Edg.mk e18.id e18.src e18.dst e18.type e18.props), v13, (()), ())).bind fun (y19, o20, _) => some (v15, (y19 : Int) == 0, o17, (()), ())
  else some (v15, false, o17, (()), ()))) (fun (_) => none)) (n) (a1, (o2.length : Int), 0, (o2.length : Int), (()), o2, ())

noncomputable def q12z_s0 {ρ : Type} (n : Nat) (rec : (List Ev.Edg) × (List Ev.Edg) × Int × Int × Unit × Unit × (List Ev.Edg) × Unit → Option ρ) (kx : (List Ev.Edg) × Unit × (List Ev.Edg) × Unit → Option ρ) (kr : (List Ev.Edg) × Bool × Unit → Option ρ) : (List Ev.Edg) × (List Ev.Edg) × Int × Int × Unit × Unit × (List Ev.Edg) × Unit → Option ρ :=
  fun (v5, v6, v7, v8, o9, o10, o11, _) =>
  (bif decide ((v8 : Int) < v7) then
  (ix v6 v8).bind fun x12 =>
  (q8z n (o11, (()), ((Ev.Edg.mk x12.id x12.src x12.dst x12.type x12.props), ()), ())).bind fun (y13, o14, o15, o16, _) =>
  (bif decide ((y13 : Int) < 0) then kr (([] : List Ev.Edg), false, ())
  else
  (delN (y13, IntKind.wrap .i64 (y13 + 1), o14, ())).bind fun (o17, _) => rec (v5, v6, v7, IntKind.wrap .i64 (v8 + 1), (()), (()), o17, ()))
  else kx (v5, (()), o11, ()))

noncomputable def q12z_s2 {ρ : Type} (n : Nat) (rec : (List Ev.Edg) × Int × Int × Unit × (List Ev.Edg) × Unit → Option ρ) (kx : (List Ev.Edg) × Unit → Option ρ) (kr : (List Ev.Edg) × Bool × Unit → Option ρ) : (List Ev.Edg) × Int × Int × Unit × (List Ev.Edg) × Unit → Option ρ :=
  fun (v23, v24, v25, o26, o27, _) =>
  (bif decide ((v25 : Int) < v24) then
  (ix v23 v25).bind fun x28 =>
  (q74z ((Ev.Edg.mk x28.id x28.src x28.dst x28.type x28.props), ())).bind fun (y29, _) =>
  (q3z n (y29, o27, (()), ())).bind fun (y30, y31, o32, o33, _) =>
  (bif y31 then kr (([] : List Ev.Edg), false, ())
  else
  (insN (y30, o32, ([(Ev.Edg.mk x28.id x28.src x28.dst x28.type x28.props)] : List Ev.Edg), ())).bind fun (o34, o35, _) => rec (v23, v24, IntKind.wrap .i64 (v25 + 1), (()), o34, ()))
  else kx (o27, ()))

noncomputable def F_q12z_s0 {ρ : Type} (n : Nat) (kr : (List Ev.Edg) × Bool × Unit → Option ρ) : Int → Ev.Edg → ((List Ev.Edg) × Unit × Unit × (List Ev.Edg) × Unit) → (((List Ev.Edg) × Unit × Unit × (List Ev.Edg) × Unit) → Option ρ) → Option ρ :=
  fun v8 x12 (v5, o9, o10, o11, _) rec =>
  (q8z n (o11, (()), ((Ev.Edg.mk x12.id x12.src x12.dst x12.type x12.props), ()), ())).bind fun (y13, o14, o15, o16, _) =>
  (bif decide ((y13 : Int) < 0) then kr (([] : List Ev.Edg), false, ())
  else
  (delN (y13, IntKind.wrap .i64 (y13 + 1), o14, ())).bind fun (o17, _) => rec (v5, (()), (()), o17, ()))

theorem R_q12z_s0 {ρ : Type} (n : Nat) (kx : (List Ev.Edg) × Unit × (List Ev.Edg) × Unit → Option ρ) (kr : (List Ev.Edg) × Bool × Unit → Option ρ) (l : List Ev.Edg) (fuel : Nat) (v5 : List Ev.Edg) (o9 : Unit) (o10 : Unit) (o11 : List Ev.Edg) (hl : l.length ≤ 9223372036854775807) (hf : l.length < fuel) :
    iterN (fun rc => q12z_s0 n rc kx kr) fuel (v5, l, (l.length : Int), 0, o9, o10, o11, ()) = foldK (F_q12z_s0 n kr) (fun (v5, o9, o10, o11, _) => kx (v5, (()), o11, ())) 0 l (v5, o9, o10, o11, ()) :=
  range_listM l (fun i (v5, o9, o10, o11, _) => (v5, l, (l.length : Int), i, o9, o10, o11, ())) _ _ _ (fun rec i s => rfl) hl fuel (v5, o9, o10, o11, ()) hf

noncomputable def F_q12z_s2 {ρ : Type} (n : Nat) (kr : (List Ev.Edg) × Bool × Unit → Option ρ) : Int → Ev.Edg → (Unit × (List Ev.Edg) × Unit) → ((Unit × (List Ev.Edg) × Unit) → Option ρ) → Option ρ :=
  fun v25 x28 (o26, o27, _) rec =>
  (q74z ((Ev.Edg.mk x28.id x28.src x28.dst x28.type x28.props), ())).bind fun (y29, _) =>
  (q3z n (y29, o27, (()), ())).bind fun (y30, y31, o32, o33, _) =>
  (bif y31 then kr (([] : List Ev.Edg), false, ())
  else
  (insN (y30, o32, ([(Ev.Edg.mk x28.id x28.src x28.dst x28.type x28.props)] : List Ev.Edg), ())).bind fun (o34, o35, _) => rec ((()), o34, ()))

theorem R_q12z_s2 {ρ : Type} (n : Nat) (kx : (List Ev.Edg) × Unit → Option ρ) (kr : (List Ev.Edg) × Bool × Unit → Option ρ) (l : List Ev.Edg) (fuel : Nat) (o26 : Unit) (o27 : List Ev.Edg) (hl : l.length ≤ 9223372036854775807) (hf : l.length < fuel) :
    iterN (fun rc => q12z_s2 n rc kx kr) fuel (l, (l.length : Int), 0, o26, o27, ()) = foldK (F_q12z_s2 n kr) (fun (o26, o27, _) => kx (o27, ())) 0 l (o26, o27, ()) :=
  range_listM l (fun i (o26, o27, _) => (l, (l.length : Int), i, o26, o27, ())) _ _ _ (fun rec i s => rfl) hl fuel (o26, o27, ()) hf

noncomputable def q12z (n : Nat) : (List Ev.Edg) × (List Ev.Edg) × (List Ev.Edg) × Unit → Option ((List Ev.Edg) × Bool × Unit) :=
  fun (a1, a2, a3, _) =>
  (q14z (a1, ())).bind fun (o4, _) =>
  iterN (fun rc40 => q12z_s0 n rc40 (fun (v18, o19, o20, _) =>
  iterN (fun rc39 => q12z_s2 n rc39 (fun (o36, _) => some (o36, true, ())) (fun (v37, v38, _) => some (v37, v38, ()))) (n) (v18, (v18.length : Int), 0, (()), o20, ())) (fun (v21, v22, _) => some (v21, v22, ()))) (n) (a3, a2, (a2.length : Int), 0, (()), (()), o4, ())

noncomputable def q16z : (List ByteArray) × Unit → Option ((List ByteArray) × Unit) :=
  fun (a1, _) =>
  nilq a1 (some (([] : List ByteArray), ())) (
  ck (room (([] : List ByteArray) ++ a1).length 16) (some (([] : List ByteArray) ++ a1, ())))

noncomputable def q75z_s0 {ρ : Type} (self_q75z : Ev.Val × Unit → Option (Ev.Val × Unit)) (n : Nat) (rec : (List Ev.Val) × Int × Int × (Int × Int × ByteArray × Unit) × (Ev.Val × Unit) × (List Ev.Val) × Unit → Option ρ) (kx : (Int × Int × ByteArray × Unit) × (Ev.Val × Unit) × (List Ev.Val) × Unit → Option ρ) (kr : Unit → Option ρ) : (List Ev.Val) × Int × Int × (Int × Int × ByteArray × Unit) × (Ev.Val × Unit) × (List Ev.Val) × Unit → Option ρ :=
  fun (v2, v3, v4, o5, o6, o7, _) =>
  (bif decide ((v4 : Int) < v3) then
  (ix v2 v4).bind fun x8 =>
  (self_q75z ((Ev.Val.mk x8.kind x8.n x8.s x8.l), ())).bind fun (y10, _) =>
  ck (room (o7 ++ ([(Ev.Val.mk y10.kind y10.n y10.s y10.l)] : List Ev.Val)).length 56) (rec (v2, v3, IntKind.wrap .i64 (v4 + 1), (o5.1, o5.2.1, o5.2.2.1, ()), ((Ev.Val.mk o6.1.kind o6.1.n o6.1.s o6.1.l), ()), o7 ++ ([(Ev.Val.mk y10.kind y10.n y10.s y10.l)] : List Ev.Val), ()))
  else kx ((o5.1, o5.2.1, o5.2.2.1, ()), ((Ev.Val.mk o6.1.kind o6.1.n o6.1.s o6.1.l), ()), o7, ()))

noncomputable def F_q75z_s0 {ρ : Type} (self_q75z : Ev.Val × Unit → Option (Ev.Val × Unit)) (n : Nat) (kr : Unit → Option ρ) : Int → Ev.Val → ((Int × Int × ByteArray × Unit) × (Ev.Val × Unit) × (List Ev.Val) × Unit) → (((Int × Int × ByteArray × Unit) × (Ev.Val × Unit) × (List Ev.Val) × Unit) → Option ρ) → Option ρ :=
  fun v4 x8 (o5, o6, o7, _) rec =>
  (self_q75z ((Ev.Val.mk x8.kind x8.n x8.s x8.l), ())).bind fun (y10, _) =>
  ck (room (o7 ++ ([(Ev.Val.mk y10.kind y10.n y10.s y10.l)] : List Ev.Val)).length 56) (rec ((o5.1, o5.2.1, o5.2.2.1, ()), ((Ev.Val.mk o6.1.kind o6.1.n o6.1.s o6.1.l), ()), o7 ++ ([(Ev.Val.mk y10.kind y10.n y10.s y10.l)] : List Ev.Val), ()))

theorem R_q75z_s0 {ρ : Type} (self_q75z : Ev.Val × Unit → Option (Ev.Val × Unit)) (n : Nat) (kx : (Int × Int × ByteArray × Unit) × (Ev.Val × Unit) × (List Ev.Val) × Unit → Option ρ) (kr : Unit → Option ρ) (l : List Ev.Val) (fuel : Nat) (o5 : Int × Int × ByteArray × Unit) (o6 : Ev.Val × Unit) (o7 : List Ev.Val) (hl : l.length ≤ 9223372036854775807) (hf : l.length < fuel) :
    iterN (fun rc => q75z_s0 self_q75z n rc kx kr) fuel (l, (l.length : Int), 0, o5, o6, o7, ()) = foldK (F_q75z_s0 self_q75z n kr) (fun (o5, o6, o7, _) => kx ((o5.1, o5.2.1, o5.2.2.1, ()), ((Ev.Val.mk o6.1.kind o6.1.n o6.1.s o6.1.l), ()), o7, ())) 0 l (o5, o6, o7, ()) :=
  range_listM l (fun i (o5, o6, o7, _) => (l, (l.length : Int), i, o5, o6, o7, ())) _ _ _ (fun rec i s => rfl) hl fuel (o5, o6, o7, ()) hf

noncomputable def q75z_b (self_q75z : Ev.Val × Unit → Option (Ev.Val × Unit)) (n : Nat) : Ev.Val × Unit → Option (Ev.Val × Unit) :=
  fun (a1, _) =>
  iterN (fun rc14 => q75z_s0 self_q75z n rc14 (fun (o11, o12, o13, _) => some ((Ev.Val.mk o11.1 o11.2.1 o11.2.2.1 o13), ())) (fun (_) => none)) (n) (a1.l, (a1.l.length : Int), 0, (a1.kind, a1.n, a1.s, ()), ((Ev.Val.mk 0 0 (⟨#[]⟩ : ByteArray) ([] : List Ev.Val)), ()), ([] : List Ev.Val), ())

noncomputable def q75z : Nat → Ev.Val × Unit → Option (Ev.Val × Unit)
  | 0, _ => none
  | n + 1, x => q75z_b (q75z n) n x

noncomputable def q50z_s0 {ρ : Type} (n : Nat) (rec : (List Ev.Prp) × Int × Int × (List Ev.Prp) × Unit → Option ρ) (kx : (List Ev.Prp) × Unit → Option ρ) (kr : Unit → Option ρ) : (List Ev.Prp) × Int × Int × (List Ev.Prp) × Unit → Option ρ :=
  fun (v2, v3, v4, o5, _) =>
  (bif decide ((v4 : Int) < v3) then
  (ix v2 v4).bind fun x6 =>
  (q75z n ((Ev.Val.mk x6.val.kind x6.val.n x6.val.s x6.val.l), ())).bind fun (y7, _) =>
  ck (room (o5 ++ ([(Ev.Prp.mk x6.name (Ev.Val.mk y7.kind y7.n y7.s y7.l))] : List Ev.Prp)).length 72) (rec (v2, v3, IntKind.wrap .i64 (v4 + 1), o5 ++ ([(Ev.Prp.mk x6.name (Ev.Val.mk y7.kind y7.n y7.s y7.l))] : List Ev.Prp), ()))
  else kx (o5, ()))

noncomputable def F_q50z_s0 {ρ : Type} (n : Nat) (kr : Unit → Option ρ) : Int → Ev.Prp → ((List Ev.Prp) × Unit) → (((List Ev.Prp) × Unit) → Option ρ) → Option ρ :=
  fun v4 x6 (o5, _) rec =>
  (q75z n ((Ev.Val.mk x6.val.kind x6.val.n x6.val.s x6.val.l), ())).bind fun (y7, _) =>
  ck (room (o5 ++ ([(Ev.Prp.mk x6.name (Ev.Val.mk y7.kind y7.n y7.s y7.l))] : List Ev.Prp)).length 72) (rec (o5 ++ ([(Ev.Prp.mk x6.name (Ev.Val.mk y7.kind y7.n y7.s y7.l))] : List Ev.Prp), ()))

theorem R_q50z_s0 {ρ : Type} (n : Nat) (kx : (List Ev.Prp) × Unit → Option ρ) (kr : Unit → Option ρ) (l : List Ev.Prp) (fuel : Nat) (o5 : List Ev.Prp) (hl : l.length ≤ 9223372036854775807) (hf : l.length < fuel) :
    iterN (fun rc => q50z_s0 n rc kx kr) fuel (l, (l.length : Int), 0, o5, ()) = foldK (F_q50z_s0 n kr) (fun (o5, _) => kx (o5, ())) 0 l (o5, ()) :=
  range_listM l (fun i (o5, _) => (l, (l.length : Int), i, o5, ())) _ _ _ (fun rec i s => rfl) hl fuel (o5, ()) hf

noncomputable def q50z (n : Nat) : (List Ev.Prp) × Unit → Option ((List Ev.Prp) × Unit) :=
  fun (a1, _) =>
  iterN (fun rc9 => q50z_s0 n rc9 (fun (o8, _) => some (o8, ())) (fun (_) => none)) (n) (a1, (a1.length : Int), 0, ([] : List Ev.Prp), ())

noncomputable def q53z (n : Nat) : Ev.Node × Unit → Option (Ev.Node × Unit) :=
  fun (a1, _) =>
  (q16z (a1.labels, ())).bind fun (y2, _) =>
  (q50z n (a1.props, ())).bind fun (y3, _) => some ((Ev.Node.mk a1.id y2 y3), ())

noncomputable def q52z (n : Nat) : Ev.Edg × Unit → Option (Ev.Edg × Unit) :=
  fun (a1, _) =>
  (q50z n (a1.props, ())).bind fun (y2, _) => some ((Ev.Edg.mk a1.id a1.src a1.dst a1.type y2), ())

noncomputable def q70z_s0 {ρ : Type} (n : Nat) (rec : (List Ev.Node) × Int × Int × (Ev.Graph × Unit) × (Ev.Graph × Unit) × (Int × Unit) × (List Ev.Node) × Unit → Option ρ) (kx : (Ev.Graph × Unit) × (Ev.Graph × Unit) × (Int × Unit) × (List Ev.Node) × Unit → Option ρ) (kr : Unit → Option ρ) : (List Ev.Node) × Int × Int × (Ev.Graph × Unit) × (Ev.Graph × Unit) × (Int × Unit) × (List Ev.Node) × Unit → Option ρ :=
  fun (v2, v3, v4, o5, o6, o7, o8, _) =>
  (bif decide ((v4 : Int) < v3) then
  (ix v2 v4).bind fun x9 =>
  (q53z n ((Ev.Node.mk x9.id x9.labels x9.props), ())).bind fun (y11, _) =>
  ck (room (o8 ++ ([(Ev.Node.mk y11.id y11.labels y11.props)] : List Ev.Node)).length 56) (rec (v2, v3, IntKind.wrap .i64 (v4 + 1), ((Ev.Graph.mk o5.1.nodes o5.1.edges o5.1.next), ()), ((Ev.Graph.mk o6.1.nodes o6.1.edges o6.1.next), ()), (o7.1, ()), o8 ++ ([(Ev.Node.mk y11.id y11.labels y11.props)] : List Ev.Node), ()))
  else kx (((Ev.Graph.mk o5.1.nodes o5.1.edges o5.1.next), ()), ((Ev.Graph.mk o6.1.nodes o6.1.edges o6.1.next), ()), (o7.1, ()), o8, ()))

noncomputable def q70z_s2 {ρ : Type} (n : Nat) (rec : (List Ev.Edg) × Int × Int × (Ev.Graph × Unit) × (Int × Unit) × (List Ev.Node) × (List Ev.Edg) × Unit → Option ρ) (kx : (Ev.Graph × Unit) × (Int × Unit) × (List Ev.Node) × (List Ev.Edg) × Unit → Option ρ) (kr : Unit → Option ρ) : (List Ev.Edg) × Int × Int × (Ev.Graph × Unit) × (Int × Unit) × (List Ev.Node) × (List Ev.Edg) × Unit → Option ρ :=
  fun (v16, v17, v18, o19, o20, o21, o22, _) =>
  (bif decide ((v18 : Int) < v17) then
  (ix v16 v18).bind fun x23 =>
  (q52z n ((Ev.Edg.mk x23.id x23.src x23.dst x23.type x23.props), ())).bind fun (y25, _) =>
  ck (room (o22 ++ ([(Ev.Edg.mk y25.id y25.src y25.dst y25.type y25.props)] : List Ev.Edg)).length 64) (rec (v16, v17, IntKind.wrap .i64 (v18 + 1), ((Ev.Graph.mk o19.1.nodes o19.1.edges o19.1.next), ()), (o20.1, ()), o21, o22 ++ ([(Ev.Edg.mk y25.id y25.src y25.dst y25.type y25.props)] : List Ev.Edg), ()))
  else kx (((Ev.Graph.mk o19.1.nodes o19.1.edges o19.1.next), ()), (o20.1, ()), o21, o22, ()))

noncomputable def F_q70z_s0 {ρ : Type} (n : Nat) (kr : Unit → Option ρ) : Int → Ev.Node → ((Ev.Graph × Unit) × (Ev.Graph × Unit) × (Int × Unit) × (List Ev.Node) × Unit) → (((Ev.Graph × Unit) × (Ev.Graph × Unit) × (Int × Unit) × (List Ev.Node) × Unit) → Option ρ) → Option ρ :=
  fun v4 x9 (o5, o6, o7, o8, _) rec =>
  (q53z n ((Ev.Node.mk x9.id x9.labels x9.props), ())).bind fun (y11, _) =>
  ck (room (o8 ++ ([(Ev.Node.mk y11.id y11.labels y11.props)] : List Ev.Node)).length 56) (rec (((Ev.Graph.mk o5.1.nodes o5.1.edges o5.1.next), ()), ((Ev.Graph.mk o6.1.nodes o6.1.edges o6.1.next), ()), (o7.1, ()), o8 ++ ([(Ev.Node.mk y11.id y11.labels y11.props)] : List Ev.Node), ()))

theorem R_q70z_s0 {ρ : Type} (n : Nat) (kx : (Ev.Graph × Unit) × (Ev.Graph × Unit) × (Int × Unit) × (List Ev.Node) × Unit → Option ρ) (kr : Unit → Option ρ) (l : List Ev.Node) (fuel : Nat) (o5 : Ev.Graph × Unit) (o6 : Ev.Graph × Unit) (o7 : Int × Unit) (o8 : List Ev.Node) (hl : l.length ≤ 9223372036854775807) (hf : l.length < fuel) :
    iterN (fun rc => q70z_s0 n rc kx kr) fuel (l, (l.length : Int), 0, o5, o6, o7, o8, ()) = foldK (F_q70z_s0 n kr) (fun (o5, o6, o7, o8, _) => kx (((Ev.Graph.mk o5.1.nodes o5.1.edges o5.1.next), ()), ((Ev.Graph.mk o6.1.nodes o6.1.edges o6.1.next), ()), (o7.1, ()), o8, ())) 0 l (o5, o6, o7, o8, ()) :=
  range_listM l (fun i (o5, o6, o7, o8, _) => (l, (l.length : Int), i, o5, o6, o7, o8, ())) _ _ _ (fun rec i s => rfl) hl fuel (o5, o6, o7, o8, ()) hf

noncomputable def F_q70z_s2 {ρ : Type} (n : Nat) (kr : Unit → Option ρ) : Int → Ev.Edg → ((Ev.Graph × Unit) × (Int × Unit) × (List Ev.Node) × (List Ev.Edg) × Unit) → (((Ev.Graph × Unit) × (Int × Unit) × (List Ev.Node) × (List Ev.Edg) × Unit) → Option ρ) → Option ρ :=
  fun v18 x23 (o19, o20, o21, o22, _) rec =>
  (q52z n ((Ev.Edg.mk x23.id x23.src x23.dst x23.type x23.props), ())).bind fun (y25, _) =>
  ck (room (o22 ++ ([(Ev.Edg.mk y25.id y25.src y25.dst y25.type y25.props)] : List Ev.Edg)).length 64) (rec (((Ev.Graph.mk o19.1.nodes o19.1.edges o19.1.next), ()), (o20.1, ()), o21, o22 ++ ([(Ev.Edg.mk y25.id y25.src y25.dst y25.type y25.props)] : List Ev.Edg), ()))

theorem R_q70z_s2 {ρ : Type} (n : Nat) (kx : (Ev.Graph × Unit) × (Int × Unit) × (List Ev.Node) × (List Ev.Edg) × Unit → Option ρ) (kr : Unit → Option ρ) (l : List Ev.Edg) (fuel : Nat) (o19 : Ev.Graph × Unit) (o20 : Int × Unit) (o21 : List Ev.Node) (o22 : List Ev.Edg) (hl : l.length ≤ 9223372036854775807) (hf : l.length < fuel) :
    iterN (fun rc => q70z_s2 n rc kx kr) fuel (l, (l.length : Int), 0, o19, o20, o21, o22, ()) = foldK (F_q70z_s2 n kr) (fun (o19, o20, o21, o22, _) => kx (((Ev.Graph.mk o19.1.nodes o19.1.edges o19.1.next), ()), (o20.1, ()), o21, o22, ())) 0 l (o19, o20, o21, o22, ()) :=
  range_listM l (fun i (o19, o20, o21, o22, _) => (l, (l.length : Int), i, o19, o20, o21, o22, ())) _ _ _ (fun rec i s => rfl) hl fuel (o19, o20, o21, o22, ()) hf

noncomputable def q70z (n : Nat) : Ev.Graph × Unit → Option (Ev.Graph × Unit) :=
  fun (a1, _) =>
  iterN (fun rc31 => q70z_s0 n rc31 (fun (o12, o13, o14, o15, _) =>
  iterN (fun rc30 => q70z_s2 n rc30 (fun (o26, o27, o28, o29, _) => some ((Ev.Graph.mk o28 o29 o27.1), ())) (fun (_) => none)) (n) (o12.1.edges, (o12.1.edges.length : Int), 0, ((Ev.Graph.mk o13.1.nodes o13.1.edges o13.1.next), ()), (o14.1, ()), o15, ([] : List Ev.Edg), ())) (fun (_) => none)) (n) (a1.nodes, (a1.nodes.length : Int), 0, ((Ev.Graph.mk a1.nodes a1.edges a1.next), ()), ((Ev.Graph.mk ([] : List Ev.Node) ([] : List Ev.Edg) 0), ()), (a1.next, ()), ([] : List Ev.Node), ())

noncomputable def txn_Turn_s0 {ρ : Type} (n : Nat) (rec : Ev.Pair × Int × (Ev.Graph × Unit) × (Ev.Delta × Unit) × (Ev.Graph × Unit) × Unit → Option ρ) (kx : (Ev.Graph × Unit) × (Ev.Delta × Unit) × (Ev.Graph × Unit) × Unit → Option ρ) (kr : Int × (Ev.Graph × Unit) × Unit → Option ρ) : Ev.Pair × Int × (Ev.Graph × Unit) × (Ev.Delta × Unit) × (Ev.Graph × Unit) × Unit → Option ρ :=
  fun (v4, v5, o6, o7, o8, _) =>
  (bif decide ((v5 : Int) < 2) then
  (ix ([v4.p, v4.q] : List Int) v5).bind fun x9 =>
  (bif decide ((x9 : Int) > 60) then kr (2, ((Ev.Graph.mk ([] : List Ev.Node) ([] : List Ev.Edg) 0), ()), ())
  else rec ((Ev.Pair.mk v4.p v4.q), IntKind.wrap .i64 (v5 + 1), ((Ev.Graph.mk o6.1.nodes o6.1.edges o6.1.next), ()), ((Ev.Delta.mk o7.1.gone o7.1.fresh o7.1.goneE o7.1.freshE o7.1.src o7.1.dst), ()), ((Ev.Graph.mk o8.1.nodes o8.1.edges o8.1.next), ()), ()))
  else kx (((Ev.Graph.mk o6.1.nodes o6.1.edges o6.1.next), ()), ((Ev.Delta.mk o7.1.gone o7.1.fresh o7.1.goneE o7.1.freshE o7.1.src o7.1.dst), ()), ((Ev.Graph.mk o8.1.nodes o8.1.edges o8.1.next), ()), ()))

noncomputable def txn_Turn (n : Nat) : Ev.Graph × Ev.Delta × Unit → Option (Ev.Graph × Int × Unit) :=
  fun (a1, a2, _) =>
  (q62z n ((Ev.Graph.mk a1.nodes a1.edges a1.next), ())).bind fun (y3, _) =>
  (bif (y3 : Int) != 0 then some ((Ev.Graph.mk ([] : List Ev.Node) ([] : List Ev.Edg) 0), y3, ())
  else
  (bif (a2.src : Int) != a1.next then some ((Ev.Graph.mk ([] : List Ev.Node) ([] : List Ev.Edg) 0), 6, ())
  else
  iterN (fun rc21 => txn_Turn_s0 n rc21 (fun (o10, o11, o12, _) =>
  (q13z n (o10.1.nodes, o11.1.gone, o11.1.fresh, ())).bind fun (y15, y16, _) =>
  (q12z n (o10.1.edges, o11.1.goneE, o11.1.freshE, ())).bind fun (y17, y18, _) =>
  (bif (!y16) || (!y18) then some ((Ev.Graph.mk ([] : List Ev.Node) ([] : List Ev.Edg) 0), 6, ())
  else
  (q62z n ((Ev.Graph.mk y15 y17 o11.1.dst), ())).bind fun (y19, _) =>
  (bif (y19 : Int) != 0 then some ((Ev.Graph.mk ([] : List Ev.Node) ([] : List Ev.Edg) 0), y19, ())
  else
  (q70z n ((Ev.Graph.mk y15 y17 o11.1.dst), ())).bind fun (y20, _) => some ((Ev.Graph.mk y20.nodes y20.edges y20.next), 0, ())))) (fun (v13, o14, _) => some ((Ev.Graph.mk o14.1.nodes o14.1.edges o14.1.next), v13, ()))) (n) ((Ev.Pair.mk (a2.fresh.length : Int) (a2.freshE.length : Int)), 0, ((Ev.Graph.mk a1.nodes a1.edges a1.next), ()), ((Ev.Delta.mk a2.gone a2.fresh a2.goneE a2.freshE a2.src a2.dst), ()), ((Ev.Graph.mk ([] : List Ev.Node) ([] : List Ev.Edg) 0), ()), ())))

noncomputable def q41z : ByteArray × Unit → Option (Bool × Unit) :=
  fun (a1, _) =>
  (bif (seq a1 (⟨#[]⟩ : ByteArray)) || (decide (((a1.size : Int) : Int) > 12)) then some (false, ())
  else
  (sat a1 0).bind fun c2 =>
  (bif decide ((c2 : Int) ≥ 48) then
  (sat a1 0).bind fun c3 =>
  (bif decide ((c3 : Int) ≤ 57) then some (false, ())
  else
  (trimN (a1, (⟨#[97, 98, 99, 100, 101, 102, 103, 104, 105, 106, 107, 108, 109, 110, 111, 112, 113, 114, 115, 116, 117, 118, 119, 120, 121, 122, 65, 66, 67, 68, 69, 70, 71, 72, 73, 74, 75, 76, 77, 78, 79, 80, 81, 82, 83, 84, 85, 86, 87, 88, 89, 90, 48, 49, 50, 51, 52, 53, 54, 55, 56, 57, 95]⟩ : ByteArray), ())).bind fun (y4, _) => some (seq y4 (⟨#[]⟩ : ByteArray), ()))
  else
  (trimN (a1, (⟨#[97, 98, 99, 100, 101, 102, 103, 104, 105, 106, 107, 108, 109, 110, 111, 112, 113, 114, 115, 116, 117, 118, 119, 120, 121, 122, 65, 66, 67, 68, 69, 70, 71, 72, 73, 74, 75, 76, 77, 78, 79, 80, 81, 82, 83, 84, 85, 86, 87, 88, 89, 90, 48, 49, 50, 51, 52, 53, 54, 55, 56, 57, 95]⟩ : ByteArray), ())).bind fun (y5, _) => some (seq y5 (⟨#[]⟩ : ByteArray), ())))

noncomputable def q18z_s0 {ρ : Type} (n : Nat) (rec : ByteArray × (List ByteArray) × Int × Int × Unit → Option ρ) (kx : Unit → Option ρ) (kr : Int × Unit → Option ρ) : ByteArray × (List ByteArray) × Int × Int × Unit → Option ρ :=
  fun (v2, v3, v4, v5, _) =>
  (bif decide ((v5 : Int) < v4) then
  (ix v3 v5).bind fun x6 =>
  (q41z (x6, ())).bind fun (y7, _) =>
  (bif (!y7) || (sless x6 v2 || seq x6 v2) then kr (6, ())
  else rec (x6, v3, v4, IntKind.wrap .i64 (v5 + 1), ()))
  else kx (()))

noncomputable def F_q18z_s0 {ρ : Type} (n : Nat) (kr : Int × Unit → Option ρ) : Int → ByteArray → (ByteArray × Unit) → ((ByteArray × Unit) → Option ρ) → Option ρ :=
  fun v5 x6 (v2, _) rec =>
  (q41z (x6, ())).bind fun (y7, _) =>
  (bif (!y7) || (sless x6 v2 || seq x6 v2) then kr (6, ())
  else rec (x6, ()))

theorem R_q18z_s0 {ρ : Type} (n : Nat) (kx : Unit → Option ρ) (kr : Int × Unit → Option ρ) (l : List ByteArray) (fuel : Nat) (v2 : ByteArray) (hl : l.length ≤ 9223372036854775807) (hf : l.length < fuel) :
    iterN (fun rc => q18z_s0 n rc kx kr) fuel (v2, l, (l.length : Int), 0, ()) = foldK (F_q18z_s0 n kr) (fun (v2, _) => kx (())) 0 l (v2, ()) :=
  range_listM l (fun i (v2, _) => (v2, l, (l.length : Int), i, ())) _ _ _ (fun rec i s => rfl) hl fuel (v2, ()) hf

noncomputable def q18z (n : Nat) : (List ByteArray) × Unit → Option (Int × Unit) :=
  fun (a1, _) =>
  (bif decide (((a1.length : Int) : Int) > 4) then some (2, ())
  else
  iterN (fun rc9 => q18z_s0 n rc9 (fun (_) => some (0, ())) (fun (v8, _) => some (v8, ()))) (n) ((⟨#[]⟩ : ByteArray), a1, (a1.length : Int), 0, ()))

noncomputable def q22z_s1 {ρ : Type} (self_q22z : Ev.Val × Int × Unit → Option (Int × Unit)) (n : Nat) (rec : Int × Bool × Bool × (List Ev.Val) × Int × Int × Unit → Option ρ) (kx : Bool × Bool × Unit → Option ρ) (kr : Int × Unit → Option ρ) : Int × Bool × Bool × (List Ev.Val) × Int × Int × Unit → Option ρ :=
  fun (v3, v4, v5, v6, v7, v8, _) =>
  (bif decide ((v8 : Int) < v7) then
  (ix v6 v8).bind fun x9 =>
  (self_q22z ((Ev.Val.mk x9.kind x9.n x9.s x9.l), IntKind.wrap .i64 (v3 + 1), ())).bind fun (y10, _) =>
  (bif (y10 : Int) != 0 then kr (y10, ())
  else rec (v3, v4, v5, v6, v7, IntKind.wrap .i64 (v8 + 1), ()))
  else kx (v4, v5, ()))

noncomputable def F_q22z_s1 {ρ : Type} (self_q22z : Ev.Val × Int × Unit → Option (Int × Unit)) (n : Nat) (kr : Int × Unit → Option ρ) : Int → Ev.Val → (Int × Bool × Bool × Unit) → ((Int × Bool × Bool × Unit) → Option ρ) → Option ρ :=
  fun v8 x9 (v3, v4, v5, _) rec =>
  (self_q22z ((Ev.Val.mk x9.kind x9.n x9.s x9.l), IntKind.wrap .i64 (v3 + 1), ())).bind fun (y10, _) =>
  (bif (y10 : Int) != 0 then kr (y10, ())
  else rec (v3, v4, v5, ()))

theorem R_q22z_s1 {ρ : Type} (self_q22z : Ev.Val × Int × Unit → Option (Int × Unit)) (n : Nat) (kx : Bool × Bool × Unit → Option ρ) (kr : Int × Unit → Option ρ) (l : List Ev.Val) (fuel : Nat) (v3 : Int) (v4 : Bool) (v5 : Bool) (hl : l.length ≤ 9223372036854775807) (hf : l.length < fuel) :
    iterN (fun rc => q22z_s1 self_q22z n rc kx kr) fuel (v3, v4, v5, l, (l.length : Int), 0, ()) = foldK (F_q22z_s1 self_q22z n kr) (fun (v3, v4, v5, _) => kx (v4, v5, ())) 0 l (v3, v4, v5, ()) :=
  range_listM l (fun i (v3, v4, v5, _) => (v3, v4, v5, l, (l.length : Int), i, ())) _ _ _ (fun rec i s => rfl) hl fuel (v3, v4, v5, ()) hf

noncomputable def q22z_b (self_q22z : Ev.Val × Int × Unit → Option (Int × Unit)) (n : Nat) : Ev.Val × Int × Unit → Option (Int × Unit) :=
  fun (a1, a2, _) =>
  (bif (a1.kind : Int) == 4 then
  (bif (decide (((a1.l.length : Int) : Int) > 30)) || (decide ((a2 : Int) > 6)) then some (2, ())
  else
  iterN (fun rc14 => q22z_s1 self_q22z n rc14 (fun (v11, v12, _) =>
  (bif v11 && v12 then some (0, ())
  else some (6, ()))) (fun (v13, _) => some (v13, ()))) (n) (a2, (a1.n : Int) == 0, seq a1.s (⟨#[]⟩ : ByteArray), a1.l, (a1.l.length : Int), 0, ()))
  else
  (bif (a1.kind : Int) == 3 then
  (bif decide (((a1.s.size : Int) : Int) > 4000) then some (2, ())
  else
  (bif ((a1.n : Int) == 0) && (((a1.l.length : Int) : Int) == 0) then
  (validN (a1.s, ())).bind fun (y15, _) =>
  (bif y15 then some (0, ())
  else some (6, ()))
  else some (6, ())))
  else
  (bif (a1.kind : Int) == 0 then
  (bif (((a1.n : Int) == 0) && (seq a1.s (⟨#[]⟩ : ByteArray))) && (((a1.l.length : Int) : Int) == 0) then some (0, ())
  else some (6, ()))
  else
  (bif (a1.kind : Int) == 1 then
  (bif ((((a1.n : Int) == 0) || ((a1.n : Int) == 1)) && (seq a1.s (⟨#[]⟩ : ByteArray))) && (((a1.l.length : Int) : Int) == 0) then some (0, ())
  else some (6, ()))
  else
  (bif (a1.kind : Int) == 2 then
  (bif (seq a1.s (⟨#[]⟩ : ByteArray)) && (((a1.l.length : Int) : Int) == 0) then some (0, ())
  else some (6, ()))
  else some (6, ()))))))

noncomputable def q22z : Nat → Ev.Val × Int × Unit → Option (Int × Unit)
  | 0, _ => none
  | n + 1, x => q22z_b (q22z n) n x

noncomputable def q21z_s0 {ρ : Type} (n : Nat) (rec : ByteArray × (List Ev.Prp) × Int × Int × Unit → Option ρ) (kx : Unit → Option ρ) (kr : Int × Unit → Option ρ) : ByteArray × (List Ev.Prp) × Int × Int × Unit → Option ρ :=
  fun (v2, v3, v4, v5, _) =>
  (bif decide ((v5 : Int) < v4) then
  (ix v3 v5).bind fun x6 =>
  (q41z (x6.name, ())).bind fun (y7, _) =>
  (bif ((!y7) || (sless x6.name v2 || seq x6.name v2)) || ((x6.val.kind : Int) == 0) then kr (6, ())
  else
  (q22z n ((Ev.Val.mk x6.val.kind x6.val.n x6.val.s x6.val.l), 1, ())).bind fun (y8, _) =>
  (bif (y8 : Int) != 0 then kr (y8, ())
  else rec (x6.name, v3, v4, IntKind.wrap .i64 (v5 + 1), ())))
  else kx (()))

noncomputable def F_q21z_s0 {ρ : Type} (n : Nat) (kr : Int × Unit → Option ρ) : Int → Ev.Prp → (ByteArray × Unit) → ((ByteArray × Unit) → Option ρ) → Option ρ :=
  fun v5 x6 (v2, _) rec =>
  (q41z (x6.name, ())).bind fun (y7, _) =>
  (bif ((!y7) || (sless x6.name v2 || seq x6.name v2)) || ((x6.val.kind : Int) == 0) then kr (6, ())
  else
  (q22z n ((Ev.Val.mk x6.val.kind x6.val.n x6.val.s x6.val.l), 1, ())).bind fun (y8, _) =>
  (bif (y8 : Int) != 0 then kr (y8, ())
  else rec (x6.name, ())))

theorem R_q21z_s0 {ρ : Type} (n : Nat) (kx : Unit → Option ρ) (kr : Int × Unit → Option ρ) (l : List Ev.Prp) (fuel : Nat) (v2 : ByteArray) (hl : l.length ≤ 9223372036854775807) (hf : l.length < fuel) :
    iterN (fun rc => q21z_s0 n rc kx kr) fuel (v2, l, (l.length : Int), 0, ()) = foldK (F_q21z_s0 n kr) (fun (v2, _) => kx (())) 0 l (v2, ()) :=
  range_listM l (fun i (v2, _) => (v2, l, (l.length : Int), i, ())) _ _ _ (fun rec i s => rfl) hl fuel (v2, ()) hf

noncomputable def q21z (n : Nat) : (List Ev.Prp) × Unit → Option (Int × Unit) :=
  fun (a1, _) =>
  (bif decide (((a1.length : Int) : Int) > 6) then some (2, ())
  else
  iterN (fun rc10 => q21z_s0 n rc10 (fun (_) => some (0, ())) (fun (v9, _) => some (v9, ()))) (n) ((⟨#[]⟩ : ByteArray), a1, (a1.length : Int), 0, ()))

noncomputable def q42z_s0 {ρ : Type} (n : Nat) (rec : Int × Int × Int × (Ev.Graph × Unit) × Unit → Option ρ) (kx : Unit → Option ρ) (kr : Ev.Node × Unit → Option ρ) : Int × Int × Int × (Ev.Graph × Unit) × Unit → Option ρ :=
  fun (v3, v4, v5, o6, _) =>
  (bif decide ((v5 : Int) < v4) then
  (ix o6.1.nodes v5).bind fun x7 =>
  (bif (x7.id : Int) == v3 then
  (ix o6.1.nodes v5).bind fun x8 => kr ((Ev.Node.mk x8.id x8.labels x8.props), ())
  else rec (v3, v4, IntKind.wrap .i64 (v5 + 1), ((Ev.Graph.mk o6.1.nodes o6.1.edges o6.1.next), ()), ()))
  else kx (()))

noncomputable def q42z (n : Nat) : Ev.Graph × Int × Unit → Option ((Option Ev.Node) × Unit) :=
  fun (a1, a2, _) =>
  iterN (fun rc10 => q42z_s0 n rc10 (fun (_) => some (none, ())) (fun (v9, _) => some (some (Ev.Node.mk v9.id v9.labels v9.props), ()))) (n) (a2, (a1.nodes.length : Int), 0, ((Ev.Graph.mk a1.nodes a1.edges a1.next), ()), ())

noncomputable def q20z_s0 {ρ : Type} (n : Nat) (rec : Int × Int × (List Ev.Node) × Int × Int × (Ev.Graph × Unit) × Unit → Option ρ) (kx : Int × (Ev.Graph × Unit) × Unit → Option ρ) (kr : Int × Unit → Option ρ) : Int × Int × (List Ev.Node) × Int × Int × (Ev.Graph × Unit) × Unit → Option ρ :=
  fun (v2, v3, v4, v5, v6, o7, _) =>
  (bif decide ((v6 : Int) < v5) then
  (ix v4 v6).bind fun x8 =>
  (bif decide ((x8.id : Int) ≤ v3) then kr (6, ())
  else
  (q18z n (x8.labels, ())).bind fun (y9, _) =>
  (bif (y9 : Int) != 0 then kr (y9, ())
  else
  (q21z n (x8.props, ())).bind fun (y10, _) =>
  (bif (y10 : Int) != 0 then kr (y10, ())
  else rec (x8.id, x8.id, v4, v5, IntKind.wrap .i64 (v6 + 1), ((Ev.Graph.mk o7.1.nodes o7.1.edges o7.1.next), ()), ()))))
  else kx (v2, ((Ev.Graph.mk o7.1.nodes o7.1.edges o7.1.next), ()), ()))

noncomputable def q20z_s2 {ρ : Type} (n : Nat) (rec : Int × Int × (List Ev.Edg) × Int × Int × (Ev.Graph × Unit) × Unit → Option ρ) (kx : Int × (Ev.Graph × Unit) × Unit → Option ρ) (kr : Int × Unit → Option ρ) : Int × Int × (List Ev.Edg) × Int × Int × (Ev.Graph × Unit) × Unit → Option ρ :=
  fun (v14, v15, v16, v17, v18, o19, _) =>
  (bif decide ((v18 : Int) < v17) then
  (ix v16 v18).bind fun x20 =>
  (bif decide ((x20.id : Int) ≤ v15) then kr (6, ())
  else
  (q42z n ((Ev.Graph.mk o19.1.nodes o19.1.edges o19.1.next), x20.id, ())).bind fun (y21, _) =>
  optC y21 (
  (q41z (x20.type, ())).bind fun (y23, _) =>
  (bif !y23 then kr (6, ())
  else
  (q42z n ((Ev.Graph.mk o19.1.nodes o19.1.edges o19.1.next), x20.src, ())).bind fun (y24, _) =>
  optC y24 (kr (5, ())) (fun z25 =>
  (q42z n ((Ev.Graph.mk o19.1.nodes o19.1.edges o19.1.next), x20.dst, ())).bind fun (y26, _) =>
  optC y26 (kr (5, ())) (fun z27 =>
  (q21z n (x20.props, ())).bind fun (y28, _) =>
  (bif (y28 : Int) != 0 then kr (y28, ())
  else rec ((if x20.id > v14 then x20.id else v14), x20.id, v16, v17, IntKind.wrap .i64 (v18 + 1), ((Ev.Graph.mk o19.1.nodes o19.1.edges o19.1.next), ()), ())))))) (fun z22 => kr (6, ())))
  else kx (v14, ((Ev.Graph.mk o19.1.nodes o19.1.edges o19.1.next), ()), ()))

noncomputable def F_q20z_s0 {ρ : Type} (n : Nat) (kr : Int × Unit → Option ρ) : Int → Ev.Node → (Int × Int × (Ev.Graph × Unit) × Unit) → ((Int × Int × (Ev.Graph × Unit) × Unit) → Option ρ) → Option ρ :=
  fun v6 x8 (v2, v3, o7, _) rec =>
  (bif decide ((x8.id : Int) ≤ v3) then kr (6, ())
  else
  (q18z n (x8.labels, ())).bind fun (y9, _) =>
  (bif (y9 : Int) != 0 then kr (y9, ())
  else
  (q21z n (x8.props, ())).bind fun (y10, _) =>
  (bif (y10 : Int) != 0 then kr (y10, ())
  else rec (x8.id, x8.id, ((Ev.Graph.mk o7.1.nodes o7.1.edges o7.1.next), ()), ()))))

theorem R_q20z_s0 {ρ : Type} (n : Nat) (kx : Int × (Ev.Graph × Unit) × Unit → Option ρ) (kr : Int × Unit → Option ρ) (l : List Ev.Node) (fuel : Nat) (v2 : Int) (v3 : Int) (o7 : Ev.Graph × Unit) (hl : l.length ≤ 9223372036854775807) (hf : l.length < fuel) :
    iterN (fun rc => q20z_s0 n rc kx kr) fuel (v2, v3, l, (l.length : Int), 0, o7, ()) = foldK (F_q20z_s0 n kr) (fun (v2, v3, o7, _) => kx (v2, ((Ev.Graph.mk o7.1.nodes o7.1.edges o7.1.next), ()), ())) 0 l (v2, v3, o7, ()) :=
  range_listM l (fun i (v2, v3, o7, _) => (v2, v3, l, (l.length : Int), i, o7, ())) _ _ _ (fun rec i s => rfl) hl fuel (v2, v3, o7, ()) hf

noncomputable def F_q20z_s2 {ρ : Type} (n : Nat) (kr : Int × Unit → Option ρ) : Int → Ev.Edg → (Int × Int × (Ev.Graph × Unit) × Unit) → ((Int × Int × (Ev.Graph × Unit) × Unit) → Option ρ) → Option ρ :=
  fun v18 x20 (v14, v15, o19, _) rec =>
  (bif decide ((x20.id : Int) ≤ v15) then kr (6, ())
  else
  (q42z n ((Ev.Graph.mk o19.1.nodes o19.1.edges o19.1.next), x20.id, ())).bind fun (y21, _) =>
  optC y21 (
  (q41z (x20.type, ())).bind fun (y23, _) =>
  (bif !y23 then kr (6, ())
  else
  (q42z n ((Ev.Graph.mk o19.1.nodes o19.1.edges o19.1.next), x20.src, ())).bind fun (y24, _) =>
  optC y24 (kr (5, ())) (fun z25 =>
  (q42z n ((Ev.Graph.mk o19.1.nodes o19.1.edges o19.1.next), x20.dst, ())).bind fun (y26, _) =>
  optC y26 (kr (5, ())) (fun z27 =>
  (q21z n (x20.props, ())).bind fun (y28, _) =>
  (bif (y28 : Int) != 0 then kr (y28, ())
  else rec ((if x20.id > v14 then x20.id else v14), x20.id, ((Ev.Graph.mk o19.1.nodes o19.1.edges o19.1.next), ()), ())))))) (fun z22 => kr (6, ())))

theorem R_q20z_s2 {ρ : Type} (n : Nat) (kx : Int × (Ev.Graph × Unit) × Unit → Option ρ) (kr : Int × Unit → Option ρ) (l : List Ev.Edg) (fuel : Nat) (v14 : Int) (v15 : Int) (o19 : Ev.Graph × Unit) (hl : l.length ≤ 9223372036854775807) (hf : l.length < fuel) :
    iterN (fun rc => q20z_s2 n rc kx kr) fuel (v14, v15, l, (l.length : Int), 0, o19, ()) = foldK (F_q20z_s2 n kr) (fun (v14, v15, o19, _) => kx (v14, ((Ev.Graph.mk o19.1.nodes o19.1.edges o19.1.next), ()), ())) 0 l (v14, v15, o19, ()) :=
  range_listM l (fun i (v14, v15, o19, _) => (v14, v15, l, (l.length : Int), i, o19, ())) _ _ _ (fun rec i s => rfl) hl fuel (v14, v15, o19, ()) hf

noncomputable def q20z (n : Nat) : Ev.Graph × Unit → Option (Int × Unit) :=
  fun (a1, _) =>
  (bif (decide (((a1.nodes.length : Int) : Int) > 40)) || (decide (((a1.edges.length : Int) : Int) > 60)) then some (2, ())
  else
  iterN (fun rc33 => q20z_s0 n rc33 (fun (v11, o12, _) =>
  iterN (fun rc32 => q20z_s2 n rc32 (fun (v29, o30, _) =>
  (bif (decide ((o30.1.next : Int) ≤ v29)) || (decide ((o30.1.next : Int) > 1099511627776)) then some (9, ())
  else some (0, ()))) (fun (v31, _) => some (v31, ()))) (n) (v11, 0, o12.1.edges, (o12.1.edges.length : Int), 0, ((Ev.Graph.mk o12.1.nodes o12.1.edges o12.1.next), ()), ())) (fun (v13, _) => some (v13, ()))) (n) (0, 0, a1.nodes, (a1.nodes.length : Int), 0, ((Ev.Graph.mk a1.nodes a1.edges a1.next), ()), ()))

noncomputable def q49z : Int × Unit → Option (Ev.Val × Unit) :=
  fun (a1, _) => some ((Ev.Val.mk 2 a1 (⟨#[]⟩ : ByteArray) ([] : List Ev.Val)), ())

noncomputable def q43z : Unit → Option (Ev.Graph × Unit) :=
  fun (_) =>
  (q49z (5, ())).bind fun (y1, _) => some ((Ev.Graph.mk ([(Ev.Node.mk 1 ([(⟨#[65]⟩ : ByteArray)] : List ByteArray) ([(Ev.Prp.mk (⟨#[110]⟩ : ByteArray) (Ev.Val.mk y1.kind y1.n y1.s y1.l))] : List Ev.Prp)), (Ev.Node.mk 2 ([] : List ByteArray) ([] : List Ev.Prp))] : List Ev.Node) ([(Ev.Edg.mk 3 1 2 (⟨#[75]⟩ : ByteArray) ([] : List Ev.Prp))] : List Ev.Edg) 4), ())

noncomputable def q54z_s0 {ρ : Type} (n : Nat) (rec : (List Ev.Node) × Int × Int × (Ev.Graph × Unit) × (Ev.Graph × Unit) × (Int × Unit) × (List Ev.Node) × Unit → Option ρ) (kx : (Ev.Graph × Unit) × (Ev.Graph × Unit) × (Int × Unit) × (List Ev.Node) × Unit → Option ρ) (kr : Unit → Option ρ) : (List Ev.Node) × Int × Int × (Ev.Graph × Unit) × (Ev.Graph × Unit) × (Int × Unit) × (List Ev.Node) × Unit → Option ρ :=
  fun (v2, v3, v4, o5, o6, o7, o8, _) =>
  (bif decide ((v4 : Int) < v3) then
  (ix v2 v4).bind fun x9 =>
  (q53z n ((Ev.Node.mk x9.id x9.labels x9.props), ())).bind fun (y11, _) =>
  ck (room (o8 ++ ([(Ev.Node.mk y11.id y11.labels y11.props)] : List Ev.Node)).length 56) (rec (v2, v3, IntKind.wrap .i64 (v4 + 1), ((Ev.Graph.mk o5.1.nodes o5.1.edges o5.1.next), ()), ((Ev.Graph.mk o6.1.nodes o6.1.edges o6.1.next), ()), (o7.1, ()), o8 ++ ([(Ev.Node.mk y11.id y11.labels y11.props)] : List Ev.Node), ()))
  else kx (((Ev.Graph.mk o5.1.nodes o5.1.edges o5.1.next), ()), ((Ev.Graph.mk o6.1.nodes o6.1.edges o6.1.next), ()), (o7.1, ()), o8, ()))

noncomputable def q54z_s2 {ρ : Type} (n : Nat) (rec : (List Ev.Edg) × Int × Int × (Ev.Graph × Unit) × (Int × Unit) × (List Ev.Node) × (List Ev.Edg) × Unit → Option ρ) (kx : (Ev.Graph × Unit) × (Int × Unit) × (List Ev.Node) × (List Ev.Edg) × Unit → Option ρ) (kr : Unit → Option ρ) : (List Ev.Edg) × Int × Int × (Ev.Graph × Unit) × (Int × Unit) × (List Ev.Node) × (List Ev.Edg) × Unit → Option ρ :=
  fun (v16, v17, v18, o19, o20, o21, o22, _) =>
  (bif decide ((v18 : Int) < v17) then
  (ix v16 v18).bind fun x23 =>
  (q52z n ((Ev.Edg.mk x23.id x23.src x23.dst x23.type x23.props), ())).bind fun (y25, _) =>
  ck (room (o22 ++ ([(Ev.Edg.mk y25.id y25.src y25.dst y25.type y25.props)] : List Ev.Edg)).length 64) (rec (v16, v17, IntKind.wrap .i64 (v18 + 1), ((Ev.Graph.mk o19.1.nodes o19.1.edges o19.1.next), ()), (o20.1, ()), o21, o22 ++ ([(Ev.Edg.mk y25.id y25.src y25.dst y25.type y25.props)] : List Ev.Edg), ()))
  else kx (((Ev.Graph.mk o19.1.nodes o19.1.edges o19.1.next), ()), (o20.1, ()), o21, o22, ()))

noncomputable def F_q54z_s0 {ρ : Type} (n : Nat) (kr : Unit → Option ρ) : Int → Ev.Node → ((Ev.Graph × Unit) × (Ev.Graph × Unit) × (Int × Unit) × (List Ev.Node) × Unit) → (((Ev.Graph × Unit) × (Ev.Graph × Unit) × (Int × Unit) × (List Ev.Node) × Unit) → Option ρ) → Option ρ :=
  fun v4 x9 (o5, o6, o7, o8, _) rec =>
  (q53z n ((Ev.Node.mk x9.id x9.labels x9.props), ())).bind fun (y11, _) =>
  ck (room (o8 ++ ([(Ev.Node.mk y11.id y11.labels y11.props)] : List Ev.Node)).length 56) (rec (((Ev.Graph.mk o5.1.nodes o5.1.edges o5.1.next), ()), ((Ev.Graph.mk o6.1.nodes o6.1.edges o6.1.next), ()), (o7.1, ()), o8 ++ ([(Ev.Node.mk y11.id y11.labels y11.props)] : List Ev.Node), ()))

theorem R_q54z_s0 {ρ : Type} (n : Nat) (kx : (Ev.Graph × Unit) × (Ev.Graph × Unit) × (Int × Unit) × (List Ev.Node) × Unit → Option ρ) (kr : Unit → Option ρ) (l : List Ev.Node) (fuel : Nat) (o5 : Ev.Graph × Unit) (o6 : Ev.Graph × Unit) (o7 : Int × Unit) (o8 : List Ev.Node) (hl : l.length ≤ 9223372036854775807) (hf : l.length < fuel) :
    iterN (fun rc => q54z_s0 n rc kx kr) fuel (l, (l.length : Int), 0, o5, o6, o7, o8, ()) = foldK (F_q54z_s0 n kr) (fun (o5, o6, o7, o8, _) => kx (((Ev.Graph.mk o5.1.nodes o5.1.edges o5.1.next), ()), ((Ev.Graph.mk o6.1.nodes o6.1.edges o6.1.next), ()), (o7.1, ()), o8, ())) 0 l (o5, o6, o7, o8, ()) :=
  range_listM l (fun i (o5, o6, o7, o8, _) => (l, (l.length : Int), i, o5, o6, o7, o8, ())) _ _ _ (fun rec i s => rfl) hl fuel (o5, o6, o7, o8, ()) hf

noncomputable def F_q54z_s2 {ρ : Type} (n : Nat) (kr : Unit → Option ρ) : Int → Ev.Edg → ((Ev.Graph × Unit) × (Int × Unit) × (List Ev.Node) × (List Ev.Edg) × Unit) → (((Ev.Graph × Unit) × (Int × Unit) × (List Ev.Node) × (List Ev.Edg) × Unit) → Option ρ) → Option ρ :=
  fun v18 x23 (o19, o20, o21, o22, _) rec =>
  (q52z n ((Ev.Edg.mk x23.id x23.src x23.dst x23.type x23.props), ())).bind fun (y25, _) =>
  ck (room (o22 ++ ([(Ev.Edg.mk y25.id y25.src y25.dst y25.type y25.props)] : List Ev.Edg)).length 64) (rec (((Ev.Graph.mk o19.1.nodes o19.1.edges o19.1.next), ()), (o20.1, ()), o21, o22 ++ ([(Ev.Edg.mk y25.id y25.src y25.dst y25.type y25.props)] : List Ev.Edg), ()))

theorem R_q54z_s2 {ρ : Type} (n : Nat) (kx : (Ev.Graph × Unit) × (Int × Unit) × (List Ev.Node) × (List Ev.Edg) × Unit → Option ρ) (kr : Unit → Option ρ) (l : List Ev.Edg) (fuel : Nat) (o19 : Ev.Graph × Unit) (o20 : Int × Unit) (o21 : List Ev.Node) (o22 : List Ev.Edg) (hl : l.length ≤ 9223372036854775807) (hf : l.length < fuel) :
    iterN (fun rc => q54z_s2 n rc kx kr) fuel (l, (l.length : Int), 0, o19, o20, o21, o22, ()) = foldK (F_q54z_s2 n kr) (fun (o19, o20, o21, o22, _) => kx (((Ev.Graph.mk o19.1.nodes o19.1.edges o19.1.next), ()), (o20.1, ()), o21, o22, ())) 0 l (o19, o20, o21, o22, ()) :=
  range_listM l (fun i (o19, o20, o21, o22, _) => (l, (l.length : Int), i, o19, o20, o21, o22, ())) _ _ _ (fun rec i s => rfl) hl fuel (o19, o20, o21, o22, ()) hf

noncomputable def q54z (n : Nat) : Ev.Graph × Unit → Option ((Int × Unit) × (List Ev.Node) × (List Ev.Edg) × Unit) :=
  fun (a1, _) =>
  iterN (fun rc31 => q54z_s0 n rc31 (fun (o12, o13, o14, o15, _) =>
  iterN (fun rc30 => q54z_s2 n rc30 (fun (o26, o27, o28, o29, _) => some ((o27.1, ()), o28, o29, ())) (fun (_) => none)) (n) (o12.1.edges, (o12.1.edges.length : Int), 0, ((Ev.Graph.mk o13.1.nodes o13.1.edges o13.1.next), ()), (o14.1, ()), o15, ([] : List Ev.Edg), ())) (fun (_) => none)) (n) (a1.nodes, (a1.nodes.length : Int), 0, ((Ev.Graph.mk a1.nodes a1.edges a1.next), ()), ((Ev.Graph.mk ([] : List Ev.Node) ([] : List Ev.Edg) 0), ()), (a1.next, ()), ([] : List Ev.Node), ())

noncomputable def q57z : Int × ((Ev.Graph × (List Int) × Unit) × Unit) × Unit → Option (Int × Unit) :=
  fun (a1, a2, _) =>
  (bif (decide ((a1 : Int) < 0)) && (decide ((a1 : Int) ≥ (IntKind.wrap .i64 (0 - (a2.1.2.1.length : Int))))) then
  (ix a2.1.2.1 (IntKind.wrap .i64 ((IntKind.wrap .i64 (0 - a1)) - 1))).bind fun x3 => some (x3, ())
  else some (a1, ()))

noncomputable def q45z : (Int × Unit) × (List Ev.Node) × (List Ev.Edg) × (List Int) × Unit → Option (Int × Int × (Int × Unit) × (List Ev.Node) × (List Ev.Edg) × (List Int) × Unit) :=
  fun (o1, o2, o3, o4, _) =>
  (bif decide ((o1.1 : Int) ≥ 1099511627776) then some (0, 10, (o1.1, ()), o2, o3, o4, ())
  else
  ck (room (o4 ++ ([o1.1] : List Int)).length 8) (some (o1.1, 0, (IntKind.wrap .i64 (o1.1 + 1), ()), o2, o3, o4 ++ ([o1.1] : List Int), ())))

noncomputable def q64z (n : Nat) : Ev.Opn × (Int × Unit) × (List Ev.Node) × (List Ev.Edg) × (List Int) × Unit → Option (Int × (Int × Unit) × (List Ev.Node) × (List Ev.Edg) × (List Int) × Unit) :=
  fun (a1, o2, o3, o4, o5, _) =>
  (q57z (a1.src, (((Ev.Graph.mk o3 o4 o2.1), o5, ()), ()), ())).bind fun (y6, _) =>
  (q57z (a1.dst, (((Ev.Graph.mk o3 o4 o2.1), o5, ()), ()), ())).bind fun (y7, _) =>
  (q71z n ((Ev.Graph.mk o3 o4 o2.1), y6, ())).bind fun (y8, _) =>
  (bif decide ((y8 : Int) < 0) then some (5, (o2.1, ()), o3, o4, o5, ())
  else
  (q71z n ((Ev.Graph.mk o3 o4 o2.1), y7, ())).bind fun (y9, _) =>
  (bif decide ((y9 : Int) < 0) then some (5, (o2.1, ()), o3, o4, o5, ())
  else
  (q72z n (a1.name, ())).bind fun (y10, _) =>
  (bif !y10 then some (6, (o2.1, ()), o3, o4, o5, ())
  else
  (q63z n (a1.props, ())).bind fun (y11, _) =>
  (bif (y11 : Int) != 0 then some (y11, (o2.1, ()), o3, o4, o5, ())
  else
  (bif ((o4.length : Int) : Int) == 60 then some (10, (o2.1, ()), o3, o4, o5, ())
  else
  (q45z ((o2.1, ()), o3, o4, o5, ())).bind fun (y12, y13, o14, o15, o16, o17, _) =>
  (q52z n ((Ev.Edg.mk y12 y6 y7 a1.name a1.props), ())).bind fun (y19, _) =>
  ck (room (o16 ++ ([(Ev.Edg.mk y19.id y19.src y19.dst y19.type y19.props)] : List Ev.Edg)).length 64) (some (y13, (o14.1, ()), o15, o16 ++ ([(Ev.Edg.mk y19.id y19.src y19.dst y19.type y19.props)] : List Ev.Edg), o17, ())))))))

noncomputable def q65z (n : Nat) : Ev.Opn × (Int × Unit) × (List Ev.Node) × (List Ev.Edg) × (List Int) × Unit → Option (Int × (Int × Unit) × (List Ev.Node) × (List Ev.Edg) × (List Int) × Unit) :=
  fun (a1, o2, o3, o4, o5, _) =>
  (q61z n (a1.labels, ())).bind fun (y6, _) =>
  (bif (y6 : Int) != 0 then some (y6, (o2.1, ()), o3, o4, o5, ())
  else
  (q63z n (a1.props, ())).bind fun (y7, _) =>
  (bif (y7 : Int) != 0 then some (y7, (o2.1, ()), o3, o4, o5, ())
  else
  (bif ((o3.length : Int) : Int) == 40 then some (10, (o2.1, ()), o3, o4, o5, ())
  else
  (q45z ((o2.1, ()), o3, o4, o5, ())).bind fun (y8, y9, o10, o11, o12, o13, _) =>
  (q53z n ((Ev.Node.mk y8 a1.labels a1.props), ())).bind fun (y15, _) =>
  ck (room (o11 ++ ([(Ev.Node.mk y15.id y15.labels y15.props)] : List Ev.Node)).length 56) (some (y9, (o10.1, ()), o11 ++ ([(Ev.Node.mk y15.id y15.labels y15.props)] : List Ev.Node), o12, o13, ())))))

noncomputable def txn_Apply_s0 {ρ : Type} (n : Nat) (rec : (List Ev.Opn) × Int × Int × (Ev.Graph × Unit) × Unit × (List Ev.Node) × (Int × Unit) × (List Ev.Edg) × (List Int) × Unit → Option ρ) (kx : (Ev.Graph × Unit) × (List Ev.Node) × (Int × Unit) × (List Ev.Edg) × (List Int) × Unit → Option ρ) (kr : (List Int) × Int × Int × (Ev.Graph × Unit) × Unit → Option ρ) : (List Ev.Opn) × Int × Int × (Ev.Graph × Unit) × Unit × (List Ev.Node) × (Int × Unit) × (List Ev.Edg) × (List Int) × Unit → Option ρ :=
  fun (v7, v8, v9, o10, o11, o12, o13, o14, o15, _) =>
  (bif decide ((v9 : Int) < v8) then
  (ix v7 v9).bind fun x16 =>
  (bif (decide ((x16.kind : Int) > 0)) && (decide ((x16.kind : Int) < 8)) then
  (bif x16.kind == (1 : Int) then
  (q65z n ((Ev.Opn.mk 1 x16.id x16.src x16.dst x16.name (Ev.Val.mk x16.val.kind x16.val.n x16.val.s x16.val.l) x16.labels x16.props), (o13.1, ()), o12, o14, o15, ())).bind fun (y22, o23, o24, o25, o26, _) =>
  (bif (y22 : Int) != 0 then kr (([] : List Int), v9, y22, ((Ev.Graph.mk ([] : List Ev.Node) ([] : List Ev.Edg) 0), ()), ())
  else rec (v7, v8, IntKind.wrap .i64 (v9 + 1), ((Ev.Graph.mk o10.1.nodes o10.1.edges o10.1.next), ()), (()), o24, (o23.1, ()), o25, o26, ()))
  else
  (bif x16.kind == (2 : Int) then
  (q64z n ((Ev.Opn.mk 2 x16.id x16.src x16.dst x16.name (Ev.Val.mk x16.val.kind x16.val.n x16.val.s x16.val.l) x16.labels x16.props), (o13.1, ()), o12, o14, o15, ())).bind fun (y17, o18, o19, o20, o21, _) =>
  (bif (y17 : Int) != 0 then kr (([] : List Int), v9, y17, ((Ev.Graph.mk ([] : List Ev.Node) ([] : List Ev.Edg) 0), ()), ())
  else rec (v7, v8, IntKind.wrap .i64 (v9 + 1), ((Ev.Graph.mk o10.1.nodes o10.1.edges o10.1.next), ()), (()), o19, (o18.1, ()), o20, o21, ()))
  else none))
  else kr (([] : List Int), v9, 9, ((Ev.Graph.mk ([] : List Ev.Node) ([] : List Ev.Edg) 0), ()), ()))
  else kx (((Ev.Graph.mk o10.1.nodes o10.1.edges o10.1.next), ()), o12, (o13.1, ()), o14, o15, ()))

noncomputable def F_txn_Apply_s0 {ρ : Type} (n : Nat) (kr : (List Int) × Int × Int × (Ev.Graph × Unit) × Unit → Option ρ) : Int → Ev.Opn → ((Ev.Graph × Unit) × Unit × (List Ev.Node) × (Int × Unit) × (List Ev.Edg) × (List Int) × Unit) → (((Ev.Graph × Unit) × Unit × (List Ev.Node) × (Int × Unit) × (List Ev.Edg) × (List Int) × Unit) → Option ρ) → Option ρ :=
  fun v9 x16 (o10, o11, o12, o13, o14, o15, _) rec =>
  (bif (decide ((x16.kind : Int) > 0)) && (decide ((x16.kind : Int) < 8)) then
  (bif x16.kind == (1 : Int) then
  (q65z n ((Ev.Opn.mk 1 x16.id x16.src x16.dst x16.name (Ev.Val.mk x16.val.kind x16.val.n x16.val.s x16.val.l) x16.labels x16.props), (o13.1, ()), o12, o14, o15, ())).bind fun (y22, o23, o24, o25, o26, _) =>
  (bif (y22 : Int) != 0 then kr (([] : List Int), v9, y22, ((Ev.Graph.mk ([] : List Ev.Node) ([] : List Ev.Edg) 0), ()), ())
  else rec (((Ev.Graph.mk o10.1.nodes o10.1.edges o10.1.next), ()), (()), o24, (o23.1, ()), o25, o26, ()))
  else
  (bif x16.kind == (2 : Int) then
  (q64z n ((Ev.Opn.mk 2 x16.id x16.src x16.dst x16.name (Ev.Val.mk x16.val.kind x16.val.n x16.val.s x16.val.l) x16.labels x16.props), (o13.1, ()), o12, o14, o15, ())).bind fun (y17, o18, o19, o20, o21, _) =>
  (bif (y17 : Int) != 0 then kr (([] : List Int), v9, y17, ((Ev.Graph.mk ([] : List Ev.Node) ([] : List Ev.Edg) 0), ()), ())
  else rec (((Ev.Graph.mk o10.1.nodes o10.1.edges o10.1.next), ()), (()), o19, (o18.1, ()), o20, o21, ()))
  else none))
  else kr (([] : List Int), v9, 9, ((Ev.Graph.mk ([] : List Ev.Node) ([] : List Ev.Edg) 0), ()), ()))

theorem R_txn_Apply_s0 {ρ : Type} (n : Nat) (kx : (Ev.Graph × Unit) × (List Ev.Node) × (Int × Unit) × (List Ev.Edg) × (List Int) × Unit → Option ρ) (kr : (List Int) × Int × Int × (Ev.Graph × Unit) × Unit → Option ρ) (l : List Ev.Opn) (fuel : Nat) (o10 : Ev.Graph × Unit) (o11 : Unit) (o12 : List Ev.Node) (o13 : Int × Unit) (o14 : List Ev.Edg) (o15 : List Int) (hl : l.length ≤ 9223372036854775807) (hf : l.length < fuel) :
    iterN (fun rc => txn_Apply_s0 n rc kx kr) fuel (l, (l.length : Int), 0, o10, o11, o12, o13, o14, o15, ()) = foldK (F_txn_Apply_s0 n kr) (fun (o10, o11, o12, o13, o14, o15, _) => kx (((Ev.Graph.mk o10.1.nodes o10.1.edges o10.1.next), ()), o12, (o13.1, ()), o14, o15, ())) 0 l (o10, o11, o12, o13, o14, o15, ()) :=
  range_listM l (fun i (o10, o11, o12, o13, o14, o15, _) => (l, (l.length : Int), i, o10, o11, o12, o13, o14, o15, ())) _ _ _ (fun rec i s => rfl) hl fuel (o10, o11, o12, o13, o14, o15, ()) hf

noncomputable def txn_Apply (n : Nat) : Ev.Graph × (List Ev.Opn) × Unit → Option (Ev.Graph × (List Int) × Int × Int × Unit) :=
  fun (a1, a2, _) =>
  (q62z n ((Ev.Graph.mk a1.nodes a1.edges a1.next), ())).bind fun (y3, _) =>
  (bif (y3 : Int) != 0 then some ((Ev.Graph.mk ([] : List Ev.Node) ([] : List Ev.Edg) 0), ([] : List Int), 0, y3, ())
  else
  (bif decide (((a2.length : Int) : Int) > 20) then some ((Ev.Graph.mk ([] : List Ev.Node) ([] : List Ev.Edg) 0), ([] : List Int), 0, 2, ())
  else
  (q54z n ((Ev.Graph.mk a1.nodes a1.edges a1.next), ())).bind fun (y4, o5, o6, _) =>
  iterN (fun rc36 => txn_Apply_s0 n rc36 (fun (o27, o28, o29, o30, o31, _) => some ((Ev.Graph.mk o28 o30 o29.1), o31, 0, 0, ())) (fun (v32, v33, v34, o35, _) => some ((Ev.Graph.mk o35.1.nodes o35.1.edges o35.1.next), v32, v33, v34, ()))) (n) (a2, (a2.length : Int), 0, ((Ev.Graph.mk ([] : List Ev.Node) ([] : List Ev.Edg) 0), ()), (()), o5, (y4.1, ()), o6, ([] : List Int), ())))

noncomputable def q34z_s0 {ρ : Type} (n : Nat) (rec : (List Int) × (List Int) × Int × Int × Unit → Option ρ) (kx : Unit → Option ρ) (kr : Bool × Unit → Option ρ) : (List Int) × (List Int) × Int × Int × Unit → Option ρ :=
  fun (v3, v4, v5, v6, _) =>
  (bif decide ((v6 : Int) < v5) then
  (ix v3 v6).bind fun x9 =>
  (ix v4 v6).bind fun x10 =>
  (bif (x9 : Int) != x10 then kr (false, ())
  else rec (v3, v4, v5, IntKind.wrap .i64 (v6 + 1), ()))
  else kx (()))

noncomputable def F_q34z_s0 {ρ : Type} (n : Nat) (kr : Bool × Unit → Option ρ) : Int → Int → ((List Int) × Unit) → (((List Int) × Unit) → Option ρ) → Option ρ :=
  fun v6 x9 (v4, _) rec =>
  (ix v4 v6).bind fun x10 =>
  (bif (x9 : Int) != x10 then kr (false, ())
  else rec (v4, ()))

theorem R_q34z_s0 {ρ : Type} (n : Nat) (kx : Unit → Option ρ) (kr : Bool × Unit → Option ρ) (l : List Int) (fuel : Nat) (v4 : List Int) (hl : l.length ≤ 9223372036854775807) (hf : l.length < fuel) :
    iterN (fun rc => q34z_s0 n rc kx kr) fuel (l, v4, (l.length : Int), 0, ()) = foldK (F_q34z_s0 n kr) (fun (v4, _) => kx (())) 0 l (v4, ()) :=
  range_listM l (fun i (v4, _) => (l, v4, (l.length : Int), i, ())) _ _ _ (fun rec i s => rfl) hl fuel (v4, ()) hf

noncomputable def q34z (n : Nat) : (List Int) × (List Int) × Unit → Option (Bool × Unit) :=
  fun (a1, a2, _) =>
  (bif ((a1.length : Int) : Int) != (a2.length : Int) then some (false, ())
  else
  iterN (fun rc12 => q34z_s0 n rc12 (fun (_) => some (true, ())) (fun (v11, _) => some (v11, ()))) (n) (a1, a2, (a1.length : Int), 0, ()))

noncomputable def q36z (n : Nat) : Unit → Option (Bool × Unit) :=
  fun (_) =>
  (q43z (())).bind fun (y1, _) =>
  (txn_Apply n ((Ev.Graph.mk y1.nodes y1.edges y1.next), ([(Ev.Opn.mk 1 0 0 0 (⟨#[]⟩ : ByteArray) (Ev.Val.mk 0 0 (⟨#[]⟩ : ByteArray) ([] : List Ev.Val)) ([(⟨#[66]⟩ : ByteArray)] : List ByteArray) ([] : List Ev.Prp)), (Ev.Opn.mk 2 0 1 (-1) (⟨#[75]⟩ : ByteArray) (Ev.Val.mk 0 0 (⟨#[]⟩ : ByteArray) ([] : List Ev.Val)) ([] : List ByteArray) ([] : List Ev.Prp))] : List Ev.Opn), ())).bind fun (y2, y3, y4, y5, _) =>
  (bif ((y5 : Int) == 0) && ((y4 : Int) == 0) then
  (q34z n (y3, ([4, 5] : List Int), ())).bind fun (y6, _) =>
  (bif (y6 && ((y2.next : Int) == 6)) && (((y2.edges.length : Int) : Int) == 2) then
  (ix y2.edges 1).bind fun x7 => some ((x7.dst : Int) == 4, ())
  else some (false, ()))
  else some (false, ()))

noncomputable def q58z : (List Int) × (List Int) × Unit → Option (Int × Unit) :=
  fun (a1, a2, _) =>
  (cmpN (a1, a2, ())).bind fun (y3, _) => some (y3, ())

noncomputable def q38z_s1 {ρ : Type} (self_q38z : Ev.Val × Ev.Val × Unit → Option (Int × Unit)) (n : Nat) (rec : Int × (Ev.Val × Unit) × (Ev.Val × Unit) × Unit → Option ρ) (kx : (Ev.Val × Unit) × (Ev.Val × Unit) × Unit → Option ρ) (kr : Int × Unit → Option ρ) : Int × (Ev.Val × Unit) × (Ev.Val × Unit) × Unit → Option ρ :=
  fun (v4, o5, o6, _) =>
  (bif (decide ((v4 : Int) < (o5.1.l.length : Int))) && (decide ((v4 : Int) < (o6.1.l.length : Int))) then
  (ix o5.1.l v4).bind fun x9 =>
  (ix o6.1.l v4).bind fun x10 =>
  (self_q38z ((Ev.Val.mk x9.kind x9.n x9.s x9.l), (Ev.Val.mk x10.kind x10.n x10.s x10.l), ())).bind fun (y11, _) =>
  (bif (y11 : Int) != 0 then kr (y11, ())
  else rec (IntKind.wrap .i64 (v4 + 1), ((Ev.Val.mk o5.1.kind o5.1.n o5.1.s o5.1.l), ()), ((Ev.Val.mk o6.1.kind o6.1.n o6.1.s o6.1.l), ()), ()))
  else kx (((Ev.Val.mk o5.1.kind o5.1.n o5.1.s o5.1.l), ()), ((Ev.Val.mk o6.1.kind o6.1.n o6.1.s o6.1.l), ()), ()))

noncomputable def q38z_b (self_q38z : Ev.Val × Ev.Val × Unit → Option (Int × Unit)) (n : Nat) : Ev.Val × Ev.Val × Unit → Option (Int × Unit) :=
  fun (a1, a2, _) =>
  (bif decide ((a1.kind : Int) < a2.kind) then some ((-1), ())
  else
  (bif decide ((a1.kind : Int) > a2.kind) then some (1, ())
  else
  (bif decide ((a1.n : Int) < a2.n) then some ((-1), ())
  else
  (bif decide ((a1.n : Int) > a2.n) then some (1, ())
  else
  (bif !(seq a1.s a2.s) then
  (q58z (bytesI a1.s, bytesI a2.s, ())).bind fun (y3, _) => some (y3, ())
  else
  iterN (fun rc15 => q38z_s1 self_q38z n rc15 (fun (o12, o13, _) =>
  (bif decide (((o12.1.l.length : Int) : Int) < (o13.1.l.length : Int)) then some ((-1), ())
  else
  (bif decide (((o12.1.l.length : Int) : Int) > (o13.1.l.length : Int)) then some (1, ())
  else some (0, ())))) (fun (v14, _) => some (v14, ()))) (n) (0, ((Ev.Val.mk a1.kind a1.n a1.s a1.l), ()), ((Ev.Val.mk a2.kind a2.n a2.s a2.l), ()), ()))))))

noncomputable def q38z : Nat → Ev.Val × Ev.Val × Unit → Option (Int × Unit)
  | 0, _ => none
  | n + 1, x => q38z_b (q38z n) n x

noncomputable def q27z (n : Nat) : Ev.Val × Ev.Val × Unit → Option (Bool × Unit) :=
  fun (a1, a2, _) =>
  (q38z n ((Ev.Val.mk a1.kind a1.n a1.s a1.l), (Ev.Val.mk a2.kind a2.n a2.s a2.l), ())).bind fun (y3, _) => some ((y3 : Int) == 0, ())

noncomputable def q19z (n : Nat) : Ev.Prp × Ev.Prp × Unit → Option (Bool × Unit) :=
  fun (a1, a2, _) =>
  (bif seq a1.name a2.name then
  (q27z n ((Ev.Val.mk a1.val.kind a1.val.n a1.val.s a1.val.l), (Ev.Val.mk a2.val.kind a2.val.n a2.val.s a2.val.l), ())).bind fun (y3, _) => some (y3, ())
  else some (false, ()))

noncomputable def q0z_s0 {ρ : Type} (n : Nat) (rec : (List Ev.Prp) × (List Ev.Prp) × Int × Int × Unit → Option ρ) (kx : Unit → Option ρ) (kr : Bool × Unit → Option ρ) : (List Ev.Prp) × (List Ev.Prp) × Int × Int × Unit → Option ρ :=
  fun (v3, v4, v5, v6, _) =>
  (bif decide ((v6 : Int) < v5) then
  (ix v4 v6).bind fun x7 =>
  (ix v3 v6).bind fun x8 =>
  (q19z n ((Ev.Prp.mk x7.name (Ev.Val.mk x7.val.kind x7.val.n x7.val.s x7.val.l)), (Ev.Prp.mk x8.name (Ev.Val.mk x8.val.kind x8.val.n x8.val.s x8.val.l)), ())).bind fun (y9, _) =>
  (bif !y9 then kr (false, ())
  else rec (v3, v4, v5, IntKind.wrap .i64 (v6 + 1), ()))
  else kx (()))

noncomputable def F_q0z_s0 {ρ : Type} (n : Nat) (kr : Bool × Unit → Option ρ) : Int → Ev.Prp → ((List Ev.Prp) × Unit) → (((List Ev.Prp) × Unit) → Option ρ) → Option ρ :=
  fun v6 x7 (v3, _) rec =>
  (ix v3 v6).bind fun x8 =>
  (q19z n ((Ev.Prp.mk x7.name (Ev.Val.mk x7.val.kind x7.val.n x7.val.s x7.val.l)), (Ev.Prp.mk x8.name (Ev.Val.mk x8.val.kind x8.val.n x8.val.s x8.val.l)), ())).bind fun (y9, _) =>
  (bif !y9 then kr (false, ())
  else rec (v3, ()))

theorem R_q0z_s0 {ρ : Type} (n : Nat) (kx : Unit → Option ρ) (kr : Bool × Unit → Option ρ) (l : List Ev.Prp) (fuel : Nat) (v3 : List Ev.Prp) (hl : l.length ≤ 9223372036854775807) (hf : l.length < fuel) :
    iterN (fun rc => q0z_s0 n rc kx kr) fuel (v3, l, (l.length : Int), 0, ()) = foldK (F_q0z_s0 n kr) (fun (v3, _) => kx (())) 0 l (v3, ()) :=
  range_listM l (fun i (v3, _) => (v3, l, (l.length : Int), i, ())) _ _ _ (fun rec i s => rfl) hl fuel (v3, ()) hf

noncomputable def q0z (n : Nat) : (List Ev.Prp) × (List Ev.Prp) × Unit → Option (Bool × Unit) :=
  fun (a1, a2, _) =>
  (bif ((a1.length : Int) : Int) != (a2.length : Int) then some (false, ())
  else
  iterN (fun rc11 => q0z_s0 n rc11 (fun (_) => some (true, ())) (fun (v10, _) => some (v10, ()))) (n) (a2, a1, (a1.length : Int), 0, ()))

noncomputable def q26z (n : Nat) : (List Ev.Prp) × (List Ev.Prp) × Unit → Option (Bool × Unit) :=
  fun (a1, a2, _) =>
  (q0z n (a1, a2, ())).bind fun (y3, _) => some (y3, ())

noncomputable def q33z (n : Nat) : Ev.Node × Ev.Node × Unit → Option (Bool × Unit) :=
  fun (a1, a2, _) =>
  (bif (a1.id : Int) == a2.id then
  (q17z n (a1.labels, a2.labels, ())).bind fun (y3, _) =>
  (bif y3 then
  (q26z n (a1.props, a2.props, ())).bind fun (y4, _) => some (y4, ())
  else some (false, ()))
  else some (false, ()))

noncomputable def q2z_s0 {ρ : Type} (n : Nat) (rec : (List Ev.Node) × (List Ev.Node) × Int × Int × Unit → Option ρ) (kx : Unit → Option ρ) (kr : Bool × Unit → Option ρ) : (List Ev.Node) × (List Ev.Node) × Int × Int × Unit → Option ρ :=
  fun (v3, v4, v5, v6, _) =>
  (bif decide ((v6 : Int) < v5) then
  (ix v4 v6).bind fun x7 =>
  (ix v3 v6).bind fun x8 =>
  (q33z n ((Ev.Node.mk x7.id x7.labels x7.props), (Ev.Node.mk x8.id x8.labels x8.props), ())).bind fun (y9, _) =>
  (bif !y9 then kr (false, ())
  else rec (v3, v4, v5, IntKind.wrap .i64 (v6 + 1), ()))
  else kx (()))

noncomputable def F_q2z_s0 {ρ : Type} (n : Nat) (kr : Bool × Unit → Option ρ) : Int → Ev.Node → ((List Ev.Node) × Unit) → (((List Ev.Node) × Unit) → Option ρ) → Option ρ :=
  fun v6 x7 (v3, _) rec =>
  (ix v3 v6).bind fun x8 =>
  (q33z n ((Ev.Node.mk x7.id x7.labels x7.props), (Ev.Node.mk x8.id x8.labels x8.props), ())).bind fun (y9, _) =>
  (bif !y9 then kr (false, ())
  else rec (v3, ()))

theorem R_q2z_s0 {ρ : Type} (n : Nat) (kx : Unit → Option ρ) (kr : Bool × Unit → Option ρ) (l : List Ev.Node) (fuel : Nat) (v3 : List Ev.Node) (hl : l.length ≤ 9223372036854775807) (hf : l.length < fuel) :
    iterN (fun rc => q2z_s0 n rc kx kr) fuel (v3, l, (l.length : Int), 0, ()) = foldK (F_q2z_s0 n kr) (fun (v3, _) => kx (())) 0 l (v3, ()) :=
  range_listM l (fun i (v3, _) => (v3, l, (l.length : Int), i, ())) _ _ _ (fun rec i s => rfl) hl fuel (v3, ()) hf

noncomputable def q2z (n : Nat) : (List Ev.Node) × (List Ev.Node) × Unit → Option (Bool × Unit) :=
  fun (a1, a2, _) =>
  (bif ((a1.length : Int) : Int) != (a2.length : Int) then some (false, ())
  else
  iterN (fun rc11 => q2z_s0 n rc11 (fun (_) => some (true, ())) (fun (v10, _) => some (v10, ()))) (n) (a2, a1, (a1.length : Int), 0, ()))

noncomputable def q32z (n : Nat) : Ev.Edg × Ev.Edg × Unit → Option (Bool × Unit) :=
  fun (a1, a2, _) =>
  (bif ((((a1.id : Int) == a2.id) && ((a1.src : Int) == a2.src)) && ((a1.dst : Int) == a2.dst)) && (seq a1.type a2.type) then
  (q26z n (a1.props, a2.props, ())).bind fun (y3, _) => some (y3, ())
  else some (false, ()))

noncomputable def q1z_s0 {ρ : Type} (n : Nat) (rec : (List Ev.Edg) × (List Ev.Edg) × Int × Int × Unit → Option ρ) (kx : Unit → Option ρ) (kr : Bool × Unit → Option ρ) : (List Ev.Edg) × (List Ev.Edg) × Int × Int × Unit → Option ρ :=
  fun (v3, v4, v5, v6, _) =>
  (bif decide ((v6 : Int) < v5) then
  (ix v4 v6).bind fun x7 =>
  (ix v3 v6).bind fun x8 =>
  (q32z n ((Ev.Edg.mk x7.id x7.src x7.dst x7.type x7.props), (Ev.Edg.mk x8.id x8.src x8.dst x8.type x8.props), ())).bind fun (y9, _) =>
  (bif !y9 then kr (false, ())
  else rec (v3, v4, v5, IntKind.wrap .i64 (v6 + 1), ()))
  else kx (()))

noncomputable def F_q1z_s0 {ρ : Type} (n : Nat) (kr : Bool × Unit → Option ρ) : Int → Ev.Edg → ((List Ev.Edg) × Unit) → (((List Ev.Edg) × Unit) → Option ρ) → Option ρ :=
  fun v6 x7 (v3, _) rec =>
  (ix v3 v6).bind fun x8 =>
  (q32z n ((Ev.Edg.mk x7.id x7.src x7.dst x7.type x7.props), (Ev.Edg.mk x8.id x8.src x8.dst x8.type x8.props), ())).bind fun (y9, _) =>
  (bif !y9 then kr (false, ())
  else rec (v3, ()))

theorem R_q1z_s0 {ρ : Type} (n : Nat) (kx : Unit → Option ρ) (kr : Bool × Unit → Option ρ) (l : List Ev.Edg) (fuel : Nat) (v3 : List Ev.Edg) (hl : l.length ≤ 9223372036854775807) (hf : l.length < fuel) :
    iterN (fun rc => q1z_s0 n rc kx kr) fuel (v3, l, (l.length : Int), 0, ()) = foldK (F_q1z_s0 n kr) (fun (v3, _) => kx (())) 0 l (v3, ()) :=
  range_listM l (fun i (v3, _) => (v3, l, (l.length : Int), i, ())) _ _ _ (fun rec i s => rfl) hl fuel (v3, ()) hf

noncomputable def q1z (n : Nat) : (List Ev.Edg) × (List Ev.Edg) × Unit → Option (Bool × Unit) :=
  fun (a1, a2, _) =>
  (bif ((a1.length : Int) : Int) != (a2.length : Int) then some (false, ())
  else
  iterN (fun rc11 => q1z_s0 n rc11 (fun (_) => some (true, ())) (fun (v10, _) => some (v10, ()))) (n) (a2, a1, (a1.length : Int), 0, ()))

noncomputable def q25z (n : Nat) : Ev.Graph × Ev.Graph × Unit → Option (Bool × Unit) :=
  fun (a1, a2, _) =>
  (bif (a1.next : Int) == a2.next then
  (q2z n (a1.nodes, a2.nodes, ())).bind fun (y3, _) =>
  (bif y3 then
  (q1z n (a1.edges, a2.edges, ())).bind fun (y4, _) => some (y4, ())
  else some (false, ()))
  else some (false, ()))

noncomputable def q37z (n : Nat) : Ev.Graph × Unit → Option (Bool × Unit) :=
  fun (a1, _) =>
  (q25z n ((Ev.Graph.mk a1.nodes a1.edges a1.next), (Ev.Graph.mk ([] : List Ev.Node) ([] : List Ev.Edg) 0), ())).bind fun (y2, _) => some (y2, ())

noncomputable def q23z (n : Nat) : Ev.Node × (Ev.Node × Unit) × Unit → Option (Bool × (Ev.Node × Unit) × Unit) :=
  fun (a1, o2, _) =>
  (q33z n ((Ev.Node.mk o2.1.id o2.1.labels o2.1.props), (Ev.Node.mk a1.id a1.labels a1.props), ())).bind fun (y3, _) => some (y3, ((Ev.Node.mk o2.1.id o2.1.labels o2.1.props), ()), ())

noncomputable def q9z_s0 {ρ : Type} (n : Nat) (rec : Int × Int × (Ev.Node × Unit) × (List Ev.Node) × Unit → Option ρ) (kx : (Ev.Node × Unit) × (List Ev.Node) × Unit → Option ρ) (kr : Int × (Ev.Node × Unit) × (List Ev.Node) × Unit → Option ρ) : Int × Int × (Ev.Node × Unit) × (List Ev.Node) × Unit → Option ρ :=
  fun (v3, v4, o5, o6, _) =>
  (bif decide ((v4 : Int) < v3) then
  (ix o6 v4).bind fun _ =>
  ((o6)[(v4 : Int).toNat]?).bind fun e7 =>
  (q23z n ((Ev.Node.mk e7.id e7.labels e7.props), ((Ev.Node.mk o5.1.id o5.1.labels o5.1.props), ()), ())).bind fun (y8, o9, _) =>
  (bif y8 then kr (v4, ((Ev.Node.mk o9.1.id o9.1.labels o9.1.props), ()), o6, ())
  else rec (v3, IntKind.wrap .i64 (v4 + 1), ((Ev.Node.mk o9.1.id o9.1.labels o9.1.props), ()), o6, ()))
  else kx (((Ev.Node.mk o5.1.id o5.1.labels o5.1.props), ()), o6, ()))

noncomputable def q9z (n : Nat) : (List Ev.Node) × (Ev.Node × Unit) × Unit → Option (Int × (List Ev.Node) × (Ev.Node × Unit) × Unit) :=
  fun (o1, o2, _) =>
  iterN (fun rc15 => q9z_s0 n rc15 (fun (o10, o11, _) => some ((-1), o11, ((Ev.Node.mk o10.1.id o10.1.labels o10.1.props), ()), ())) (fun (v12, o13, o14, _) => some (v12, o14, ((Ev.Node.mk o13.1.id o13.1.labels o13.1.props), ()), ()))) (n) ((o1.length : Int), 0, ((Ev.Node.mk o2.1.id o2.1.labels o2.1.props), ()), o1, ())

noncomputable def q24z (n : Nat) : Ev.Edg × (Ev.Edg × Unit) × Unit → Option (Bool × (Ev.Edg × Unit) × Unit) :=
  fun (a1, o2, _) =>
  (q32z n ((Ev.Edg.mk o2.1.id o2.1.src o2.1.dst o2.1.type o2.1.props), (Ev.Edg.mk a1.id a1.src a1.dst a1.type a1.props), ())).bind fun (y3, _) => some (y3, ((Ev.Edg.mk o2.1.id o2.1.src o2.1.dst o2.1.type o2.1.props), ()), ())

noncomputable def q7z_s0 {ρ : Type} (n : Nat) (rec : Int × Int × (Ev.Edg × Unit) × (List Ev.Edg) × Unit → Option ρ) (kx : (Ev.Edg × Unit) × (List Ev.Edg) × Unit → Option ρ) (kr : Int × (Ev.Edg × Unit) × (List Ev.Edg) × Unit → Option ρ) : Int × Int × (Ev.Edg × Unit) × (List Ev.Edg) × Unit → Option ρ :=
  fun (v3, v4, o5, o6, _) =>
  (bif decide ((v4 : Int) < v3) then
  (ix o6 v4).bind fun _ =>
  ((o6)[(v4 : Int).toNat]?).bind fun e7 =>
  (q24z n ((Ev.Edg.mk e7.id e7.src e7.dst e7.type e7.props), ((Ev.Edg.mk o5.1.id o5.1.src o5.1.dst o5.1.type o5.1.props), ()), ())).bind fun (y8, o9, _) =>
  (bif y8 then kr (v4, ((Ev.Edg.mk o9.1.id o9.1.src o9.1.dst o9.1.type o9.1.props), ()), o6, ())
  else rec (v3, IntKind.wrap .i64 (v4 + 1), ((Ev.Edg.mk o9.1.id o9.1.src o9.1.dst o9.1.type o9.1.props), ()), o6, ()))
  else kx (((Ev.Edg.mk o5.1.id o5.1.src o5.1.dst o5.1.type o5.1.props), ()), o6, ()))

noncomputable def q7z (n : Nat) : (List Ev.Edg) × (Ev.Edg × Unit) × Unit → Option (Int × (List Ev.Edg) × (Ev.Edg × Unit) × Unit) :=
  fun (o1, o2, _) =>
  iterN (fun rc15 => q7z_s0 n rc15 (fun (o10, o11, _) => some ((-1), o11, ((Ev.Edg.mk o10.1.id o10.1.src o10.1.dst o10.1.type o10.1.props), ()), ())) (fun (v12, o13, o14, _) => some (v12, o14, ((Ev.Edg.mk o13.1.id o13.1.src o13.1.dst o13.1.type o13.1.props), ()), ()))) (n) ((o1.length : Int), 0, ((Ev.Edg.mk o2.1.id o2.1.src o2.1.dst o2.1.type o2.1.props), ()), o1, ())

noncomputable def q40z_s0 {ρ : Type} (n : Nat) (rec : Int × Int × Int × (Ev.Graph × Unit) × Unit → Option ρ) (kx : Unit → Option ρ) (kr : Ev.Edg × Unit → Option ρ) : Int × Int × Int × (Ev.Graph × Unit) × Unit → Option ρ :=
  fun (v3, v4, v5, o6, _) =>
  (bif decide ((v5 : Int) < v4) then
  (ix o6.1.edges v5).bind fun x7 =>
  (bif (x7.id : Int) == v3 then
  (ix o6.1.edges v5).bind fun x8 => kr ((Ev.Edg.mk x8.id x8.src x8.dst x8.type x8.props), ())
  else rec (v3, v4, IntKind.wrap .i64 (v5 + 1), ((Ev.Graph.mk o6.1.nodes o6.1.edges o6.1.next), ()), ()))
  else kx (()))

noncomputable def q40z (n : Nat) : Ev.Graph × Int × Unit → Option ((Option Ev.Edg) × Unit) :=
  fun (a1, a2, _) =>
  iterN (fun rc10 => q40z_s0 n rc10 (fun (_) => some (none, ())) (fun (v9, _) => some (some (Ev.Edg.mk v9.id v9.src v9.dst v9.type v9.props), ()))) (n) (a2, (a1.edges.length : Int), 0, ((Ev.Graph.mk a1.nodes a1.edges a1.next), ()), ())

noncomputable def q35z_s1 {ρ : Type} (n : Nat) (rec : Int × (List Ev.Node) × Int × Int × (Ev.Delta × Unit) × (Ev.Graph × Unit) × (Int × Unit) × (List Ev.Node) × (List Ev.Edg) × Unit → Option ρ) (kx : Int × (Ev.Delta × Unit) × (Ev.Graph × Unit) × (Int × Unit) × (List Ev.Node) × (List Ev.Edg) × Unit → Option ρ) (kr : Bool × Unit → Option ρ) : Int × (List Ev.Node) × Int × Int × (Ev.Delta × Unit) × (Ev.Graph × Unit) × (Int × Unit) × (List Ev.Node) × (List Ev.Edg) × Unit → Option ρ :=
  fun (v12, v13, v14, v15, o16, o17, o18, o19, o20, _) =>
  (bif decide ((v15 : Int) < v14) then
  (ix v13 v15).bind fun x21 =>
  (q9z n (o19, ((Ev.Node.mk x21.id x21.labels x21.props), ()), ())).bind fun (y22, o23, o24, _) =>
  (bif decide ((y22 : Int) < 0) then
  (bif (v12 : Int) == 6 then
  (q37z n ((Ev.Graph.mk o17.1.nodes o17.1.edges o17.1.next), ())).bind fun (y25, _) => kr (y25, ())
  else kr (false, ()))
  else
  (delN (y22, IntKind.wrap .i64 (y22 + 1), o23, ())).bind fun (o26, _) => rec (v12, v13, v14, IntKind.wrap .i64 (v15 + 1), ((Ev.Delta.mk o16.1.gone o16.1.fresh o16.1.goneE o16.1.freshE o16.1.src o16.1.dst), ()), ((Ev.Graph.mk o17.1.nodes o17.1.edges o17.1.next), ()), (o18.1, ()), o26, o20, ()))
  else kx (v12, ((Ev.Delta.mk o16.1.gone o16.1.fresh o16.1.goneE o16.1.freshE o16.1.src o16.1.dst), ()), ((Ev.Graph.mk o17.1.nodes o17.1.edges o17.1.next), ()), (o18.1, ()), o19, o20, ()))

noncomputable def q35z_s3 {ρ : Type} (n : Nat) (rec : Int × (List Ev.Node) × Int × Int × (Ev.Delta × Unit) × (Ev.Graph × Unit) × (Int × Unit) × (List Ev.Node) × (List Ev.Edg) × Unit → Option ρ) (kx : Int × (Ev.Delta × Unit) × (Ev.Graph × Unit) × (Int × Unit) × (List Ev.Node) × (List Ev.Edg) × Unit → Option ρ) (kr : Bool × Unit → Option ρ) : Int × (List Ev.Node) × Int × Int × (Ev.Delta × Unit) × (Ev.Graph × Unit) × (Int × Unit) × (List Ev.Node) × (List Ev.Edg) × Unit → Option ρ :=
  fun (v34, v35, v36, v37, o38, o39, o40, o41, o42, _) =>
  (bif decide ((v37 : Int) < v36) then
  (ix v35 v37).bind fun x43 =>
  (q42z n ((Ev.Graph.mk o41 o42 o40.1), x43.id, ())).bind fun (y44, _) =>
  optC y44 (
  ck (room (o41 ++ ([(Ev.Node.mk x43.id x43.labels x43.props)] : List Ev.Node)).length 56) (rec (v34, v35, v36, IntKind.wrap .i64 (v37 + 1), ((Ev.Delta.mk o38.1.gone o38.1.fresh o38.1.goneE o38.1.freshE o38.1.src o38.1.dst), ()), ((Ev.Graph.mk o39.1.nodes o39.1.edges o39.1.next), ()), (o40.1, ()), o41 ++ ([(Ev.Node.mk x43.id x43.labels x43.props)] : List Ev.Node), o42, ()))) (fun z45 =>
  (bif (v34 : Int) == 6 then
  (q37z n ((Ev.Graph.mk o39.1.nodes o39.1.edges o39.1.next), ())).bind fun (y46, _) => kr (y46, ())
  else kr (false, ())))
  else kx (v34, ((Ev.Delta.mk o38.1.gone o38.1.fresh o38.1.goneE o38.1.freshE o38.1.src o38.1.dst), ()), ((Ev.Graph.mk o39.1.nodes o39.1.edges o39.1.next), ()), (o40.1, ()), o41, o42, ()))

noncomputable def q35z_s5 {ρ : Type} (n : Nat) (rec : Int × (List Ev.Edg) × Int × Int × (Ev.Delta × Unit) × (Ev.Graph × Unit) × (Int × Unit) × (List Ev.Node) × (List Ev.Edg) × Unit → Option ρ) (kx : Int × (Ev.Delta × Unit) × (Ev.Graph × Unit) × (Int × Unit) × (List Ev.Node) × (List Ev.Edg) × Unit → Option ρ) (kr : Bool × Unit → Option ρ) : Int × (List Ev.Edg) × Int × Int × (Ev.Delta × Unit) × (Ev.Graph × Unit) × (Int × Unit) × (List Ev.Node) × (List Ev.Edg) × Unit → Option ρ :=
  fun (v54, v55, v56, v57, o58, o59, o60, o61, o62, _) =>
  (bif decide ((v57 : Int) < v56) then
  (ix v55 v57).bind fun x63 =>
  (q7z n (o62, ((Ev.Edg.mk x63.id x63.src x63.dst x63.type x63.props), ()), ())).bind fun (y64, o65, o66, _) =>
  (bif decide ((y64 : Int) < 0) then
  (bif (v54 : Int) == 6 then
  (q37z n ((Ev.Graph.mk o59.1.nodes o59.1.edges o59.1.next), ())).bind fun (y67, _) => kr (y67, ())
  else kr (false, ()))
  else
  (delN (y64, IntKind.wrap .i64 (y64 + 1), o65, ())).bind fun (o68, _) => rec (v54, v55, v56, IntKind.wrap .i64 (v57 + 1), ((Ev.Delta.mk o58.1.gone o58.1.fresh o58.1.goneE o58.1.freshE o58.1.src o58.1.dst), ()), ((Ev.Graph.mk o59.1.nodes o59.1.edges o59.1.next), ()), (o60.1, ()), o61, o68, ()))
  else kx (v54, ((Ev.Delta.mk o58.1.gone o58.1.fresh o58.1.goneE o58.1.freshE o58.1.src o58.1.dst), ()), ((Ev.Graph.mk o59.1.nodes o59.1.edges o59.1.next), ()), (o60.1, ()), o61, o62, ()))

noncomputable def q35z_s7 {ρ : Type} (n : Nat) (rec : Int × (List Ev.Edg) × Int × Int × (Ev.Graph × Unit) × (Int × Unit) × (List Ev.Node) × (List Ev.Edg) × Unit → Option ρ) (kx : Int × (Ev.Graph × Unit) × (Int × Unit) × (List Ev.Node) × (List Ev.Edg) × Unit → Option ρ) (kr : Bool × Unit → Option ρ) : Int × (List Ev.Edg) × Int × Int × (Ev.Graph × Unit) × (Int × Unit) × (List Ev.Node) × (List Ev.Edg) × Unit → Option ρ :=
  fun (v76, v77, v78, v79, o80, o81, o82, o83, _) =>
  (bif decide ((v79 : Int) < v78) then
  (ix v77 v79).bind fun x84 =>
  (q40z n ((Ev.Graph.mk o82 o83 o81.1), x84.id, ())).bind fun (y85, _) =>
  optC y85 (
  ck (room (o83 ++ ([(Ev.Edg.mk x84.id x84.src x84.dst x84.type x84.props)] : List Ev.Edg)).length 64) (rec (v76, v77, v78, IntKind.wrap .i64 (v79 + 1), ((Ev.Graph.mk o80.1.nodes o80.1.edges o80.1.next), ()), (o81.1, ()), o82, o83 ++ ([(Ev.Edg.mk x84.id x84.src x84.dst x84.type x84.props)] : List Ev.Edg), ()))) (fun z86 =>
  (bif (v76 : Int) == 6 then
  (q37z n ((Ev.Graph.mk o80.1.nodes o80.1.edges o80.1.next), ())).bind fun (y87, _) => kr (y87, ())
  else kr (false, ())))
  else kx (v76, ((Ev.Graph.mk o80.1.nodes o80.1.edges o80.1.next), ()), (o81.1, ()), o82, o83, ()))

noncomputable def F_q35z_s1 {ρ : Type} (n : Nat) (kr : Bool × Unit → Option ρ) : Int → Ev.Node → (Int × (Ev.Delta × Unit) × (Ev.Graph × Unit) × (Int × Unit) × (List Ev.Node) × (List Ev.Edg) × Unit) → ((Int × (Ev.Delta × Unit) × (Ev.Graph × Unit) × (Int × Unit) × (List Ev.Node) × (List Ev.Edg) × Unit) → Option ρ) → Option ρ :=
  fun v15 x21 (v12, o16, o17, o18, o19, o20, _) rec =>
  (q9z n (o19, ((Ev.Node.mk x21.id x21.labels x21.props), ()), ())).bind fun (y22, o23, o24, _) =>
  (bif decide ((y22 : Int) < 0) then
  (bif (v12 : Int) == 6 then
  (q37z n ((Ev.Graph.mk o17.1.nodes o17.1.edges o17.1.next), ())).bind fun (y25, _) => kr (y25, ())
  else kr (false, ()))
  else
  (delN (y22, IntKind.wrap .i64 (y22 + 1), o23, ())).bind fun (o26, _) => rec (v12, ((Ev.Delta.mk o16.1.gone o16.1.fresh o16.1.goneE o16.1.freshE o16.1.src o16.1.dst), ()), ((Ev.Graph.mk o17.1.nodes o17.1.edges o17.1.next), ()), (o18.1, ()), o26, o20, ()))

theorem R_q35z_s1 {ρ : Type} (n : Nat) (kx : Int × (Ev.Delta × Unit) × (Ev.Graph × Unit) × (Int × Unit) × (List Ev.Node) × (List Ev.Edg) × Unit → Option ρ) (kr : Bool × Unit → Option ρ) (l : List Ev.Node) (fuel : Nat) (v12 : Int) (o16 : Ev.Delta × Unit) (o17 : Ev.Graph × Unit) (o18 : Int × Unit) (o19 : List Ev.Node) (o20 : List Ev.Edg) (hl : l.length ≤ 9223372036854775807) (hf : l.length < fuel) :
    iterN (fun rc => q35z_s1 n rc kx kr) fuel (v12, l, (l.length : Int), 0, o16, o17, o18, o19, o20, ()) = foldK (F_q35z_s1 n kr) (fun (v12, o16, o17, o18, o19, o20, _) => kx (v12, ((Ev.Delta.mk o16.1.gone o16.1.fresh o16.1.goneE o16.1.freshE o16.1.src o16.1.dst), ()), ((Ev.Graph.mk o17.1.nodes o17.1.edges o17.1.next), ()), (o18.1, ()), o19, o20, ())) 0 l (v12, o16, o17, o18, o19, o20, ()) :=
  range_listM l (fun i (v12, o16, o17, o18, o19, o20, _) => (v12, l, (l.length : Int), i, o16, o17, o18, o19, o20, ())) _ _ _ (fun rec i s => rfl) hl fuel (v12, o16, o17, o18, o19, o20, ()) hf

noncomputable def F_q35z_s3 {ρ : Type} (n : Nat) (kr : Bool × Unit → Option ρ) : Int → Ev.Node → (Int × (Ev.Delta × Unit) × (Ev.Graph × Unit) × (Int × Unit) × (List Ev.Node) × (List Ev.Edg) × Unit) → ((Int × (Ev.Delta × Unit) × (Ev.Graph × Unit) × (Int × Unit) × (List Ev.Node) × (List Ev.Edg) × Unit) → Option ρ) → Option ρ :=
  fun v37 x43 (v34, o38, o39, o40, o41, o42, _) rec =>
  (q42z n ((Ev.Graph.mk o41 o42 o40.1), x43.id, ())).bind fun (y44, _) =>
  optC y44 (
  ck (room (o41 ++ ([(Ev.Node.mk x43.id x43.labels x43.props)] : List Ev.Node)).length 56) (rec (v34, ((Ev.Delta.mk o38.1.gone o38.1.fresh o38.1.goneE o38.1.freshE o38.1.src o38.1.dst), ()), ((Ev.Graph.mk o39.1.nodes o39.1.edges o39.1.next), ()), (o40.1, ()), o41 ++ ([(Ev.Node.mk x43.id x43.labels x43.props)] : List Ev.Node), o42, ()))) (fun z45 =>
  (bif (v34 : Int) == 6 then
  (q37z n ((Ev.Graph.mk o39.1.nodes o39.1.edges o39.1.next), ())).bind fun (y46, _) => kr (y46, ())
  else kr (false, ())))

theorem R_q35z_s3 {ρ : Type} (n : Nat) (kx : Int × (Ev.Delta × Unit) × (Ev.Graph × Unit) × (Int × Unit) × (List Ev.Node) × (List Ev.Edg) × Unit → Option ρ) (kr : Bool × Unit → Option ρ) (l : List Ev.Node) (fuel : Nat) (v34 : Int) (o38 : Ev.Delta × Unit) (o39 : Ev.Graph × Unit) (o40 : Int × Unit) (o41 : List Ev.Node) (o42 : List Ev.Edg) (hl : l.length ≤ 9223372036854775807) (hf : l.length < fuel) :
    iterN (fun rc => q35z_s3 n rc kx kr) fuel (v34, l, (l.length : Int), 0, o38, o39, o40, o41, o42, ()) = foldK (F_q35z_s3 n kr) (fun (v34, o38, o39, o40, o41, o42, _) => kx (v34, ((Ev.Delta.mk o38.1.gone o38.1.fresh o38.1.goneE o38.1.freshE o38.1.src o38.1.dst), ()), ((Ev.Graph.mk o39.1.nodes o39.1.edges o39.1.next), ()), (o40.1, ()), o41, o42, ())) 0 l (v34, o38, o39, o40, o41, o42, ()) :=
  range_listM l (fun i (v34, o38, o39, o40, o41, o42, _) => (v34, l, (l.length : Int), i, o38, o39, o40, o41, o42, ())) _ _ _ (fun rec i s => rfl) hl fuel (v34, o38, o39, o40, o41, o42, ()) hf

noncomputable def F_q35z_s5 {ρ : Type} (n : Nat) (kr : Bool × Unit → Option ρ) : Int → Ev.Edg → (Int × (Ev.Delta × Unit) × (Ev.Graph × Unit) × (Int × Unit) × (List Ev.Node) × (List Ev.Edg) × Unit) → ((Int × (Ev.Delta × Unit) × (Ev.Graph × Unit) × (Int × Unit) × (List Ev.Node) × (List Ev.Edg) × Unit) → Option ρ) → Option ρ :=
  fun v57 x63 (v54, o58, o59, o60, o61, o62, _) rec =>
  (q7z n (o62, ((Ev.Edg.mk x63.id x63.src x63.dst x63.type x63.props), ()), ())).bind fun (y64, o65, o66, _) =>
  (bif decide ((y64 : Int) < 0) then
  (bif (v54 : Int) == 6 then
  (q37z n ((Ev.Graph.mk o59.1.nodes o59.1.edges o59.1.next), ())).bind fun (y67, _) => kr (y67, ())
  else kr (false, ()))
  else
  (delN (y64, IntKind.wrap .i64 (y64 + 1), o65, ())).bind fun (o68, _) => rec (v54, ((Ev.Delta.mk o58.1.gone o58.1.fresh o58.1.goneE o58.1.freshE o58.1.src o58.1.dst), ()), ((Ev.Graph.mk o59.1.nodes o59.1.edges o59.1.next), ()), (o60.1, ()), o61, o68, ()))

theorem R_q35z_s5 {ρ : Type} (n : Nat) (kx : Int × (Ev.Delta × Unit) × (Ev.Graph × Unit) × (Int × Unit) × (List Ev.Node) × (List Ev.Edg) × Unit → Option ρ) (kr : Bool × Unit → Option ρ) (l : List Ev.Edg) (fuel : Nat) (v54 : Int) (o58 : Ev.Delta × Unit) (o59 : Ev.Graph × Unit) (o60 : Int × Unit) (o61 : List Ev.Node) (o62 : List Ev.Edg) (hl : l.length ≤ 9223372036854775807) (hf : l.length < fuel) :
    iterN (fun rc => q35z_s5 n rc kx kr) fuel (v54, l, (l.length : Int), 0, o58, o59, o60, o61, o62, ()) = foldK (F_q35z_s5 n kr) (fun (v54, o58, o59, o60, o61, o62, _) => kx (v54, ((Ev.Delta.mk o58.1.gone o58.1.fresh o58.1.goneE o58.1.freshE o58.1.src o58.1.dst), ()), ((Ev.Graph.mk o59.1.nodes o59.1.edges o59.1.next), ()), (o60.1, ()), o61, o62, ())) 0 l (v54, o58, o59, o60, o61, o62, ()) :=
  range_listM l (fun i (v54, o58, o59, o60, o61, o62, _) => (v54, l, (l.length : Int), i, o58, o59, o60, o61, o62, ())) _ _ _ (fun rec i s => rfl) hl fuel (v54, o58, o59, o60, o61, o62, ()) hf

noncomputable def F_q35z_s7 {ρ : Type} (n : Nat) (kr : Bool × Unit → Option ρ) : Int → Ev.Edg → (Int × (Ev.Graph × Unit) × (Int × Unit) × (List Ev.Node) × (List Ev.Edg) × Unit) → ((Int × (Ev.Graph × Unit) × (Int × Unit) × (List Ev.Node) × (List Ev.Edg) × Unit) → Option ρ) → Option ρ :=
  fun v79 x84 (v76, o80, o81, o82, o83, _) rec =>
  (q40z n ((Ev.Graph.mk o82 o83 o81.1), x84.id, ())).bind fun (y85, _) =>
  optC y85 (
  ck (room (o83 ++ ([(Ev.Edg.mk x84.id x84.src x84.dst x84.type x84.props)] : List Ev.Edg)).length 64) (rec (v76, ((Ev.Graph.mk o80.1.nodes o80.1.edges o80.1.next), ()), (o81.1, ()), o82, o83 ++ ([(Ev.Edg.mk x84.id x84.src x84.dst x84.type x84.props)] : List Ev.Edg), ()))) (fun z86 =>
  (bif (v76 : Int) == 6 then
  (q37z n ((Ev.Graph.mk o80.1.nodes o80.1.edges o80.1.next), ())).bind fun (y87, _) => kr (y87, ())
  else kr (false, ())))

theorem R_q35z_s7 {ρ : Type} (n : Nat) (kx : Int × (Ev.Graph × Unit) × (Int × Unit) × (List Ev.Node) × (List Ev.Edg) × Unit → Option ρ) (kr : Bool × Unit → Option ρ) (l : List Ev.Edg) (fuel : Nat) (v76 : Int) (o80 : Ev.Graph × Unit) (o81 : Int × Unit) (o82 : List Ev.Node) (o83 : List Ev.Edg) (hl : l.length ≤ 9223372036854775807) (hf : l.length < fuel) :
    iterN (fun rc => q35z_s7 n rc kx kr) fuel (v76, l, (l.length : Int), 0, o80, o81, o82, o83, ()) = foldK (F_q35z_s7 n kr) (fun (v76, o80, o81, o82, o83, _) => kx (v76, ((Ev.Graph.mk o80.1.nodes o80.1.edges o80.1.next), ()), (o81.1, ()), o82, o83, ())) 0 l (v76, o80, o81, o82, o83, ()) :=
  range_listM l (fun i (v76, o80, o81, o82, o83, _) => (v76, l, (l.length : Int), i, o80, o81, o82, o83, ())) _ _ _ (fun rec i s => rfl) hl fuel (v76, o80, o81, o82, o83, ()) hf

noncomputable def q35z (n : Nat) : Ev.Graph × Ev.Delta × Unit → Option (Bool × Unit) :=
  fun (a1, a2, _) =>
  (txn_Turn n ((Ev.Graph.mk a1.nodes a1.edges a1.next), (Ev.Delta.mk a2.gone a2.fresh a2.goneE a2.freshE a2.src a2.dst), ())).bind fun (y3, y4, _) =>
  (q20z n ((Ev.Graph.mk a1.nodes a1.edges a1.next), ())).bind fun (y5, _) =>
  (bif (y5 : Int) != 0 then
  (q36z n (())).bind fun (y6, _) =>
  (bif (!y6) || ((y5 : Int) != 0) then
  (q36z n (())).bind fun (y7, _) =>
  (bif y7 && ((y4 : Int) == y5) then
  (q37z n ((Ev.Graph.mk y3.nodes y3.edges y3.next), ())).bind fun (y8, _) => some (y8, ())
  else some (false, ()))
  else
  (q15z (a1.nodes, ())).bind fun (o10, _) =>
  (q14z (a1.edges, ())).bind fun (o11, _) =>
  iterN (fun rc102 => q35z_s1 n rc102 (fun (v27, o28, o29, o30, o31, o32, _) =>
  iterN (fun rc101 => q35z_s3 n rc101 (fun (v47, o48, o49, o50, o51, o52, _) =>
  iterN (fun rc100 => q35z_s5 n rc100 (fun (v69, o70, o71, o72, o73, o74, _) =>
  iterN (fun rc99 => q35z_s7 n rc99 (fun (v88, o89, o90, o91, o92, _) =>
  (sfNode (o91, ())).bind fun (o94, _) =>
  (sfEdge (o92, ())).bind fun (o95, _) =>
  (q20z n ((Ev.Graph.mk o94 o95 o90.1), ())).bind fun (y96, _) =>
  (bif (y96 : Int) != 0 then
  (bif (v88 : Int) == y96 then
  (q37z n ((Ev.Graph.mk o89.1.nodes o89.1.edges o89.1.next), ())).bind fun (y97, _) => some (y97, ())
  else some (false, ()))
  else
  (bif (v88 : Int) == 0 then
  (q25z n ((Ev.Graph.mk o89.1.nodes o89.1.edges o89.1.next), (Ev.Graph.mk o94 o95 o90.1), ())).bind fun (y98, _) => some (y98, ())
  else some (false, ())))) (fun (v93, _) => some (v93, ()))) (n) (v69, o70.1.freshE, (o70.1.freshE.length : Int), 0, ((Ev.Graph.mk o71.1.nodes o71.1.edges o71.1.next), ()), (o72.1, ()), o73, o74, ())) (fun (v75, _) => some (v75, ()))) (n) (v47, o48.1.goneE, (o48.1.goneE.length : Int), 0, ((Ev.Delta.mk o48.1.gone o48.1.fresh o48.1.goneE o48.1.freshE o48.1.src o48.1.dst), ()), ((Ev.Graph.mk o49.1.nodes o49.1.edges o49.1.next), ()), (o50.1, ()), o51, o52, ())) (fun (v53, _) => some (v53, ()))) (n) (v27, o28.1.fresh, (o28.1.fresh.length : Int), 0, ((Ev.Delta.mk o28.1.gone o28.1.fresh o28.1.goneE o28.1.freshE o28.1.src o28.1.dst), ()), ((Ev.Graph.mk o29.1.nodes o29.1.edges o29.1.next), ()), (o30.1, ()), o31, o32, ())) (fun (v33, _) => some (v33, ()))) (n) (y4, a2.gone, (a2.gone.length : Int), 0, ((Ev.Delta.mk a2.gone a2.fresh a2.goneE a2.freshE a2.src a2.dst), ()), ((Ev.Graph.mk y3.nodes y3.edges y3.next), ()), (a2.dst, ()), o10, o11, ()))
  else
  (bif (a2.src : Int) != a1.next then
  (q36z n (())).bind fun (y103, _) =>
  (bif (!y103) || true then
  (q36z n (())).bind fun (y104, _) =>
  (bif y104 && ((y4 : Int) == 6) then
  (q37z n ((Ev.Graph.mk y3.nodes y3.edges y3.next), ())).bind fun (y105, _) => some (y105, ())
  else some (false, ()))
  else
  (q15z (a1.nodes, ())).bind fun (o107, _) =>
  (q14z (a1.edges, ())).bind fun (o108, _) =>
  iterN (fun rc144 => q35z_s1 n rc144 (fun (v109, o110, o111, o112, o113, o114, _) =>
  iterN (fun rc143 => q35z_s3 n rc143 (fun (v116, o117, o118, o119, o120, o121, _) =>
  iterN (fun rc142 => q35z_s5 n rc142 (fun (v123, o124, o125, o126, o127, o128, _) =>
  iterN (fun rc141 => q35z_s7 n rc141 (fun (v130, o131, o132, o133, o134, _) =>
  (sfNode (o133, ())).bind fun (o136, _) =>
  (sfEdge (o134, ())).bind fun (o137, _) =>
  (q20z n ((Ev.Graph.mk o136 o137 o132.1), ())).bind fun (y138, _) =>
  (bif (y138 : Int) != 0 then
  (bif (v130 : Int) == y138 then
  (q37z n ((Ev.Graph.mk o131.1.nodes o131.1.edges o131.1.next), ())).bind fun (y139, _) => some (y139, ())
  else some (false, ()))
  else
  (bif (v130 : Int) == 0 then
  (q25z n ((Ev.Graph.mk o131.1.nodes o131.1.edges o131.1.next), (Ev.Graph.mk o136 o137 o132.1), ())).bind fun (y140, _) => some (y140, ())
  else some (false, ())))) (fun (v135, _) => some (v135, ()))) (n) (v123, o124.1.freshE, (o124.1.freshE.length : Int), 0, ((Ev.Graph.mk o125.1.nodes o125.1.edges o125.1.next), ()), (o126.1, ()), o127, o128, ())) (fun (v129, _) => some (v129, ()))) (n) (v116, o117.1.goneE, (o117.1.goneE.length : Int), 0, ((Ev.Delta.mk o117.1.gone o117.1.fresh o117.1.goneE o117.1.freshE o117.1.src o117.1.dst), ()), ((Ev.Graph.mk o118.1.nodes o118.1.edges o118.1.next), ()), (o119.1, ()), o120, o121, ())) (fun (v122, _) => some (v122, ()))) (n) (v109, o110.1.fresh, (o110.1.fresh.length : Int), 0, ((Ev.Delta.mk o110.1.gone o110.1.fresh o110.1.goneE o110.1.freshE o110.1.src o110.1.dst), ()), ((Ev.Graph.mk o111.1.nodes o111.1.edges o111.1.next), ()), (o112.1, ()), o113, o114, ())) (fun (v115, _) => some (v115, ()))) (n) (y4, a2.gone, (a2.gone.length : Int), 0, ((Ev.Delta.mk a2.gone a2.fresh a2.goneE a2.freshE a2.src a2.dst), ()), ((Ev.Graph.mk y3.nodes y3.edges y3.next), ()), (a2.dst, ()), o107, o108, ()))
  else
  (bif (decide (((a2.fresh.length : Int) : Int) > 60)) || (decide (((a2.freshE.length : Int) : Int) > 60)) then
  (q36z n (())).bind fun (y145, _) =>
  (bif (!y145) || true then
  (q36z n (())).bind fun (y146, _) =>
  (bif y146 && ((y4 : Int) == 2) then
  (q37z n ((Ev.Graph.mk y3.nodes y3.edges y3.next), ())).bind fun (y147, _) => some (y147, ())
  else some (false, ()))
  else
  (q15z (a1.nodes, ())).bind fun (o149, _) =>
  (q14z (a1.edges, ())).bind fun (o150, _) =>
  iterN (fun rc186 => q35z_s1 n rc186 (fun (v151, o152, o153, o154, o155, o156, _) =>
  iterN (fun rc185 => q35z_s3 n rc185 (fun (v158, o159, o160, o161, o162, o163, _) =>
  iterN (fun rc184 => q35z_s5 n rc184 (fun (v165, o166, o167, o168, o169, o170, _) =>
  iterN (fun rc183 => q35z_s7 n rc183 (fun (v172, o173, o174, o175, o176, _) =>
  (sfNode (o175, ())).bind fun (o178, _) =>
  (sfEdge (o176, ())).bind fun (o179, _) =>
  (q20z n ((Ev.Graph.mk o178 o179 o174.1), ())).bind fun (y180, _) =>
  (bif (y180 : Int) != 0 then
  (bif (v172 : Int) == y180 then
  (q37z n ((Ev.Graph.mk o173.1.nodes o173.1.edges o173.1.next), ())).bind fun (y181, _) => some (y181, ())
  else some (false, ()))
  else
  (bif (v172 : Int) == 0 then
  (q25z n ((Ev.Graph.mk o173.1.nodes o173.1.edges o173.1.next), (Ev.Graph.mk o178 o179 o174.1), ())).bind fun (y182, _) => some (y182, ())
  else some (false, ())))) (fun (v177, _) => some (v177, ()))) (n) (v165, o166.1.freshE, (o166.1.freshE.length : Int), 0, ((Ev.Graph.mk o167.1.nodes o167.1.edges o167.1.next), ()), (o168.1, ()), o169, o170, ())) (fun (v171, _) => some (v171, ()))) (n) (v158, o159.1.goneE, (o159.1.goneE.length : Int), 0, ((Ev.Delta.mk o159.1.gone o159.1.fresh o159.1.goneE o159.1.freshE o159.1.src o159.1.dst), ()), ((Ev.Graph.mk o160.1.nodes o160.1.edges o160.1.next), ()), (o161.1, ()), o162, o163, ())) (fun (v164, _) => some (v164, ()))) (n) (v151, o152.1.fresh, (o152.1.fresh.length : Int), 0, ((Ev.Delta.mk o152.1.gone o152.1.fresh o152.1.goneE o152.1.freshE o152.1.src o152.1.dst), ()), ((Ev.Graph.mk o153.1.nodes o153.1.edges o153.1.next), ()), (o154.1, ()), o155, o156, ())) (fun (v157, _) => some (v157, ()))) (n) (y4, a2.gone, (a2.gone.length : Int), 0, ((Ev.Delta.mk a2.gone a2.fresh a2.goneE a2.freshE a2.src a2.dst), ()), ((Ev.Graph.mk y3.nodes y3.edges y3.next), ()), (a2.dst, ()), o149, o150, ()))
  else
  (q36z n (())).bind fun (y187, _) =>
  (bif (!y187) || ((y5 : Int) != 0) then
  (q36z n (())).bind fun (y188, _) =>
  (bif y188 && ((y4 : Int) == y5) then
  (q37z n ((Ev.Graph.mk y3.nodes y3.edges y3.next), ())).bind fun (y189, _) => some (y189, ())
  else some (false, ()))
  else
  (q15z (a1.nodes, ())).bind fun (o191, _) =>
  (q14z (a1.edges, ())).bind fun (o192, _) =>
  iterN (fun rc228 => q35z_s1 n rc228 (fun (v193, o194, o195, o196, o197, o198, _) =>
  iterN (fun rc227 => q35z_s3 n rc227 (fun (v200, o201, o202, o203, o204, o205, _) =>
  iterN (fun rc226 => q35z_s5 n rc226 (fun (v207, o208, o209, o210, o211, o212, _) =>
  iterN (fun rc225 => q35z_s7 n rc225 (fun (v214, o215, o216, o217, o218, _) =>
  (sfNode (o217, ())).bind fun (o220, _) =>
  (sfEdge (o218, ())).bind fun (o221, _) =>
  (q20z n ((Ev.Graph.mk o220 o221 o216.1), ())).bind fun (y222, _) =>
  (bif (y222 : Int) != 0 then
  (bif (v214 : Int) == y222 then
  (q37z n ((Ev.Graph.mk o215.1.nodes o215.1.edges o215.1.next), ())).bind fun (y223, _) => some (y223, ())
  else some (false, ()))
  else
  (bif (v214 : Int) == 0 then
  (q25z n ((Ev.Graph.mk o215.1.nodes o215.1.edges o215.1.next), (Ev.Graph.mk o220 o221 o216.1), ())).bind fun (y224, _) => some (y224, ())
  else some (false, ())))) (fun (v219, _) => some (v219, ()))) (n) (v207, o208.1.freshE, (o208.1.freshE.length : Int), 0, ((Ev.Graph.mk o209.1.nodes o209.1.edges o209.1.next), ()), (o210.1, ()), o211, o212, ())) (fun (v213, _) => some (v213, ()))) (n) (v200, o201.1.goneE, (o201.1.goneE.length : Int), 0, ((Ev.Delta.mk o201.1.gone o201.1.fresh o201.1.goneE o201.1.freshE o201.1.src o201.1.dst), ()), ((Ev.Graph.mk o202.1.nodes o202.1.edges o202.1.next), ()), (o203.1, ()), o204, o205, ())) (fun (v206, _) => some (v206, ()))) (n) (v193, o194.1.fresh, (o194.1.fresh.length : Int), 0, ((Ev.Delta.mk o194.1.gone o194.1.fresh o194.1.goneE o194.1.freshE o194.1.src o194.1.dst), ()), ((Ev.Graph.mk o195.1.nodes o195.1.edges o195.1.next), ()), (o196.1, ()), o197, o198, ())) (fun (v199, _) => some (v199, ()))) (n) (y4, a2.gone, (a2.gone.length : Int), 0, ((Ev.Delta.mk a2.gone a2.fresh a2.goneE a2.freshE a2.src a2.dst), ()), ((Ev.Graph.mk y3.nodes y3.edges y3.next), ()), (a2.dst, ()), o191, o192, ())))))

end Pure

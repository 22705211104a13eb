/- Plain functions that compute what functions of the program compute (written by gen.py). -/
import Derived.Test.YtnhbmojhcpcjaaaDoorEvLib
import Derived.Test.YtnhbmojhcpcjaaaDoorPRange
import Derived.Test.YtnhbmojhcpcjaaaDoorEvIns
namespace Pure
open Esp Ev Go
set_option linter.unusedSimpArgs false
set_option linter.unusedVariables false

noncomputable def q57z_s0 {ρ : Type} (n : Nat) (rec : ByteArray × Int × Int × Unit → Option ρ) (kx : Unit → Option ρ) (kr : Bool × Unit → Option ρ) : ByteArray × Int × Int × Unit → Option ρ :=
  fun (v2, v3, v4, _) =>
  (bif decide ((v4 : Int) < v3) then
  (sat v2 v4).bind fun c5 =>
  (bif (!((((decide ((c5 : Int) ≥ 97)) && (decide ((c5 : Int) ≤ 122))) || ((decide ((c5 : Int) ≥ 65)) && (decide ((c5 : Int) ≤ 90)))) || ((c5 : Int) == 95))) && ((((v4 : Int) == 0) || (decide ((c5 : Int) < 48))) || (decide ((c5 : Int) > 57))) then kr (false, ())
  else rec (v2, v3, IntKind.wrap .i64 (v4 + 1), ()))
  else kx (()))

noncomputable def F_q57z_s0 {ρ : Type} (n : Nat) (kr : Bool × Unit → Option ρ) : Int → Int → Unit → (Unit → Option ρ) → Option ρ :=
  fun v4 c5 (_) rec =>
  (bif (!((((decide ((c5 : Int) ≥ 97)) && (decide ((c5 : Int) ≤ 122))) || ((decide ((c5 : Int) ≥ 65)) && (decide ((c5 : Int) ≤ 90)))) || ((c5 : Int) == 95))) && ((((v4 : Int) == 0) || (decide ((c5 : Int) < 48))) || (decide ((c5 : Int) > 57))) then kr (false, ())
  else rec (()))

theorem R_q57z_s0 {ρ : Type} (n : Nat) (kx : Unit → Option ρ) (kr : Bool × Unit → Option ρ) (l : ByteArray) (fuel : Nat) (hl : l.size ≤ 4611686018427387904) (hf : l.size < fuel) :
    iterN (fun rc => q57z_s0 n rc kx kr) fuel (l, (l.size : Int), 0, ()) = foldK (F_q57z_s0 n kr) (fun (_) => kx (())) 0 (bi l.data.toList) (()) :=
  range_str l (fun i (_) => (l, (l.size : Int), i, ())) _ _ _ (fun rec i s => rfl) hl fuel (()) hf

noncomputable def q57z (n : Nat) : ByteArray × Unit → Option (Bool × Unit) :=
  fun (a1, _) =>
  (bif (seq a1 (⟨#[]⟩ : ByteArray)) || (decide (((a1.size : Int) : Int) > 12)) then some (false, ())
  else
  iterN (fun rc7 => q57z_s0 n rc7 (fun (_) => some (true, ())) (fun (v6, _) => some (v6, ()))) (n) (a1, (a1.size : Int), 0, ()))

noncomputable def q46z_s0 {ρ : Type} (n : Nat) (rec : (List ByteArray) × (List ByteArray) × Int × Int × Unit → Option ρ) (kx : Unit → Option ρ) (kr : Int × Unit → Option ρ) : (List ByteArray) × (List ByteArray) × Int × Int × Unit → Option ρ :=
  fun (v2, v3, v4, v5, _) =>
  (bif decide ((v5 : Int) < v4) then
  (ix v3 v5).bind fun x6 =>
  (q57z n (x6, ())).bind fun (y7, _) =>
  (bif !y7 then kr (6, ())
  else
  (bif decide ((v5 : Int) > 0) then
  (ix v2 (IntKind.wrap .i64 (v5 - 1))).bind fun x8 =>
  (bif !(sless x8 x6) then kr (6, ())
  else rec (v2, v3, v4, IntKind.wrap .i64 (v5 + 1), ()))
  else rec (v2, v3, v4, IntKind.wrap .i64 (v5 + 1), ())))
  else kx (()))

noncomputable def F_q46z_s0 {ρ : Type} (n : Nat) (kr : Int × Unit → Option ρ) : Int → ByteArray → ((List ByteArray) × Unit) → (((List ByteArray) × Unit) → Option ρ) → Option ρ :=
  fun v5 x6 (v2, _) rec =>
  (q57z n (x6, ())).bind fun (y7, _) =>
  (bif !y7 then kr (6, ())
  else
  (bif decide ((v5 : Int) > 0) then
  (ix v2 (IntKind.wrap .i64 (v5 - 1))).bind fun x8 =>
  (bif !(sless x8 x6) then kr (6, ())
  else rec (v2, ()))
  else rec (v2, ())))

theorem R_q46z_s0 {ρ : Type} (n : Nat) (kx : Unit → Option ρ) (kr : Int × Unit → Option ρ) (l : List ByteArray) (fuel : Nat) (v2 : List ByteArray) (hl : l.length ≤ 9223372036854775807) (hf : l.length < fuel) :
    iterN (fun rc => q46z_s0 n rc kx kr) fuel (v2, l, (l.length : Int), 0, ()) = foldK (F_q46z_s0 n kr) (fun (v2, _) => kx (())) 0 l (v2, ()) :=
  range_listM l (fun i (v2, _) => (v2, l, (l.length : Int), i, ())) _ _ _ (fun rec i s => rfl) hl fuel (v2, ()) hf

noncomputable def q46z (n : Nat) : (List ByteArray) × Unit → Option (Int × Unit) :=
  fun (a1, _) =>
  (bif decide (((a1.length : Int) : Int) > 4) then some (2, ())
  else
  iterN (fun rc10 => q46z_s0 n rc10 (fun (_) => some (0, ())) (fun (v9, _) => some (v9, ()))) (n) (a1, a1, (a1.length : Int), 0, ()))

noncomputable def q54z_s1 {ρ : Type} (self_q54z : Ev.Val × Int × Unit → Option (Int × Unit)) (n : Nat) (rec : Int × (List Ev.Val) × Int × Int × (Ev.Val × Unit) × Unit → Option ρ) (kx : (Ev.Val × Unit) × Unit → Option ρ) (kr : Int × Unit → Option ρ) : Int × (List Ev.Val) × Int × Int × (Ev.Val × Unit) × Unit → Option ρ :=
  fun (v4, v5, v6, v7, o8, _) =>
  (bif decide ((v7 : Int) < v6) then
  (ix v5 v7).bind fun x9 =>
  (self_q54z ((Ev.Val.mk x9.kind x9.n x9.s x9.l), IntKind.wrap .i64 (v4 + 1), ())).bind fun (y10, _) =>
  (bif (y10 : Int) != 0 then kr (y10, ())
  else rec (v4, v5, v6, IntKind.wrap .i64 (v7 + 1), ((Ev.Val.mk o8.1.kind o8.1.n o8.1.s o8.1.l), ()), ()))
  else kx (((Ev.Val.mk o8.1.kind o8.1.n o8.1.s o8.1.l), ()), ()))

noncomputable def F_q54z_s1 {ρ : Type} (self_q54z : Ev.Val × Int × Unit → Option (Int × Unit)) (n : Nat) (kr : Int × Unit → Option ρ) : Int → Ev.Val → (Int × (Ev.Val × Unit) × Unit) → ((Int × (Ev.Val × Unit) × Unit) → Option ρ) → Option ρ :=
  fun v7 x9 (v4, o8, _) rec =>
  (self_q54z ((Ev.Val.mk x9.kind x9.n x9.s x9.l), IntKind.wrap .i64 (v4 + 1), ())).bind fun (y10, _) =>
  (bif (y10 : Int) != 0 then kr (y10, ())
  else rec (v4, ((Ev.Val.mk o8.1.kind o8.1.n o8.1.s o8.1.l), ()), ()))

theorem R_q54z_s1 {ρ : Type} (self_q54z : Ev.Val × Int × Unit → Option (Int × Unit)) (n : Nat) (kx : (Ev.Val × Unit) × Unit → Option ρ) (kr : Int × Unit → Option ρ) (l : List Ev.Val) (fuel : Nat) (v4 : Int) (o8 : Ev.Val × Unit) (hl : l.length ≤ 9223372036854775807) (hf : l.length < fuel) :
    iterN (fun rc => q54z_s1 self_q54z n rc kx kr) fuel (v4, l, (l.length : Int), 0, o8, ()) = foldK (F_q54z_s1 self_q54z n kr) (fun (v4, o8, _) => kx (((Ev.Val.mk o8.1.kind o8.1.n o8.1.s o8.1.l), ()), ())) 0 l (v4, o8, ()) :=
  range_listM l (fun i (v4, o8, _) => (v4, l, (l.length : Int), i, o8, ())) _ _ _ (fun rec i s => rfl) hl fuel (v4, o8, ()) hf

noncomputable def q54z_b (self_q54z : Ev.Val × Int × Unit → Option (Int × Unit)) (n : Nat) : Ev.Val × Int × Unit → Option (Int × Unit) :=
  fun (a1, a2, _) =>
  (bif (a1.kind : Int) == 0 then
  (bif !((((a1.n : Int) == 0) && (seq a1.s (⟨#[]⟩ : ByteArray))) && (((a1.l.length : Int) : Int) == 0)) then some (6, ())
  else some (0, ()))
  else
  (bif (a1.kind : Int) == 1 then
  (bif !(((((a1.n : Int) == 0) || ((a1.n : Int) == 1)) && (seq a1.s (⟨#[]⟩ : ByteArray))) && (((a1.l.length : Int) : Int) == 0)) then some (6, ())
  else some (0, ()))
  else
  (bif (a1.kind : Int) == 2 then
  (bif !((seq a1.s (⟨#[]⟩ : ByteArray)) && (((a1.l.length : Int) : Int) == 0)) then some (6, ())
  else some (0, ()))
  else
  (bif (a1.kind : Int) == 3 then
  (bif decide (((a1.s.size : Int) : Int) > 4000) then some (2, ())
  else
  (bif (a1.n : Int) == 0 then
  (validN (a1.s, ())).bind fun (y3, _) =>
  (bif !(y3 && (((a1.l.length : Int) : Int) == 0)) then some (6, ())
  else some (0, ()))
  else some (6, ())))
  else
  (bif (a1.kind : Int) == 4 then
  (bif (decide (((a1.l.length : Int) : Int) > 30)) || (decide ((a2 : Int) > 6)) then some (2, ())
  else
  iterN (fun rc13 => q54z_s1 self_q54z n rc13 (fun (o11, _) =>
  (bif !(((o11.1.n : Int) == 0) && (seq o11.1.s (⟨#[]⟩ : ByteArray))) then some (6, ())
  else some (0, ()))) (fun (v12, _) => some (v12, ()))) (n) (a2, a1.l, (a1.l.length : Int), 0, ((Ev.Val.mk a1.kind a1.n a1.s a1.l), ()), ()))
  else some (6, ()))))))

noncomputable def q54z : Nat → Ev.Val × Int × Unit → Option (Int × Unit)
  | 0, _ => none
  | n + 1, x => q54z_b (q54z n) n x

noncomputable def q52z (n : Nat) : Ev.Val × Unit → Option (Int × Unit) :=
  fun (a1, _) =>
  (q54z n ((Ev.Val.mk a1.kind a1.n a1.s a1.l), 1, ())).bind fun (y2, _) => some (y2, ())

noncomputable def q48z_s0 {ρ : Type} (n : Nat) (rec : (List Ev.Prp) × (List Ev.Prp) × Int × Int × Unit → Option ρ) (kx : Unit → Option ρ) (kr : Int × Unit → Option ρ) : (List Ev.Prp) × (List Ev.Prp) × Int × Int × Unit → Option ρ :=
  fun (v2, v3, v4, v5, _) =>
  (bif decide ((v5 : Int) < v4) then
  (ix v3 v5).bind fun x6 =>
  (q57z n (x6.name, ())).bind fun (y8, _) =>
  (bif !y8 then kr (6, ())
  else
  (bif decide ((v5 : Int) > 0) then
  (ix v2 (IntKind.wrap .i64 (v5 - 1))).bind fun x9 =>
  (bif (!(sless x9.name x6.name)) || ((x6.val.kind : Int) == 0) then kr (6, ())
  else
  (q52z n ((Ev.Val.mk x6.val.kind x6.val.n x6.val.s x6.val.l), ())).bind fun (y10, _) =>
  (bif (y10 : Int) != 0 then kr (y10, ())
  else rec (v2, v3, v4, IntKind.wrap .i64 (v5 + 1), ())))
  else
  (bif (x6.val.kind : Int) == 0 then kr (6, ())
  else
  (q52z n ((Ev.Val.mk x6.val.kind x6.val.n x6.val.s x6.val.l), ())).bind fun (y11, _) =>
  (bif (y11 : Int) != 0 then kr (y11, ())
  else rec (v2, v3, v4, IntKind.wrap .i64 (v5 + 1), ())))))
  else kx (()))

noncomputable def F_q48z_s0 {ρ : Type} (n : Nat) (kr : Int × Unit → Option ρ) : Int → Ev.Prp → ((List Ev.Prp) × Unit) → (((List Ev.Prp) × Unit) → Option ρ) → Option ρ :=
  fun v5 x6 (v2, _) rec =>
  (q57z n (x6.name, ())).bind fun (y8, _) =>
  (bif !y8 then kr (6, ())
  else
  (bif decide ((v5 : Int) > 0) then
  (ix v2 (IntKind.wrap .i64 (v5 - 1))).bind fun x9 =>
  (bif (!(sless x9.name x6.name)) || ((x6.val.kind : Int) == 0) then kr (6, ())
  else
  (q52z n ((Ev.Val.mk x6.val.kind x6.val.n x6.val.s x6.val.l), ())).bind fun (y10, _) =>
  (bif (y10 : Int) != 0 then kr (y10, ())
  else rec (v2, ())))
  else
  (bif (x6.val.kind : Int) == 0 then kr (6, ())
  else
  (q52z n ((Ev.Val.mk x6.val.kind x6.val.n x6.val.s x6.val.l), ())).bind fun (y11, _) =>
  (bif (y11 : Int) != 0 then kr (y11, ())
  else rec (v2, ())))))

theorem R_q48z_s0 {ρ : Type} (n : Nat) (kx : Unit → Option ρ) (kr : Int × Unit → Option ρ) (l : List Ev.Prp) (fuel : Nat) (v2 : List Ev.Prp) (hl : l.length ≤ 9223372036854775807) (hf : l.length < fuel) :
    iterN (fun rc => q48z_s0 n rc kx kr) fuel (v2, l, (l.length : Int), 0, ()) = foldK (F_q48z_s0 n kr) (fun (v2, _) => kx (())) 0 l (v2, ()) :=
  range_listM l (fun i (v2, _) => (v2, l, (l.length : Int), i, ())) _ _ _ (fun rec i s => rfl) hl fuel (v2, ()) hf

noncomputable def q48z (n : Nat) : (List Ev.Prp) × Unit → Option (Int × Unit) :=
  fun (a1, _) =>
  (bif decide (((a1.length : Int) : Int) > 6) then some (2, ())
  else
  iterN (fun rc13 => q48z_s0 n rc13 (fun (_) => some (0, ())) (fun (v12, _) => some (v12, ()))) (n) (a1, a1, (a1.length : Int), 0, ()))

noncomputable def q31z_s0 {ρ : Type} (n : Nat) (rec : Int × (List Int) × Int × Int × Unit → Option ρ) (kx : Int × Unit → Option ρ) (kr : Int × Unit → Option ρ) : Int × (List Int) × Int × Int × Unit → Option ρ :=
  fun (v2, v3, v4, v5, _) =>
  (bif decide ((v5 : Int) < v4) then
  (ix v3 v5).bind fun x6 =>
  (bif (x6 : Int) != v2 then kr (x6, ())
  else rec (v2, v3, v4, IntKind.wrap .i64 (v5 + 1), ()))
  else kx (v2, ()))

noncomputable def F_q31z_s0 {ρ : Type} (n : Nat) (kr : Int × Unit → Option ρ) : Int → Int → (Int × Unit) → ((Int × Unit) → Option ρ) → Option ρ :=
  fun v5 x6 (v2, _) rec =>
  (bif (x6 : Int) != v2 then kr (x6, ())
  else rec (v2, ()))

theorem R_q31z_s0 {ρ : Type} (n : Nat) (kx : Int × Unit → Option ρ) (kr : Int × Unit → Option ρ) (l : List Int) (fuel : Nat) (v2 : Int) (hl : l.length ≤ 9223372036854775807) (hf : l.length < fuel) :
    iterN (fun rc => q31z_s0 n rc kx kr) fuel (v2, l, (l.length : Int), 0, ()) = foldK (F_q31z_s0 n kr) (fun (v2, _) => kx (v2, ())) 0 l (v2, ()) :=
  range_listM l (fun i (v2, _) => (v2, l, (l.length : Int), i, ())) _ _ _ (fun rec i s => rfl) hl fuel (v2, ()) hf

noncomputable def q31z (n : Nat) : (List Int) × Unit → Option (Int × Unit) :=
  fun (a1, _) =>
  iterN (fun rc9 => q31z_s0 n rc9 (fun (v7, _) => some (v7, ())) (fun (v8, _) => some (v8, ()))) (n) (0, a1, (a1.length : Int), 0, ())

noncomputable def q44z : Int × Unit → Option (Bool × Unit) :=
  fun (a1, _) => some ((a1 : Int) != a1, ())

noncomputable def q33z : Int × Int × Unit → Option (Int × Unit) :=
  fun (a1, a2, _) =>
  (q44z (a1, ())).bind fun (y3, _) =>
  (q44z (a2, ())).bind fun (y4, _) =>
  (bif y3 then
  (bif y4 then some (0, ())
  else some ((-1), ()))
  else
  (bif y4 then some (1, ())
  else
  (bif decide ((a1 : Int) < a2) then some ((-1), ())
  else
  (bif decide ((a1 : Int) > a2) then some (1, ())
  else some (0, ())))))

noncomputable def q45z : Ev.Node × Int × Unit → Option (Int × Unit) :=
  fun (a1, a2, _) =>
  (q33z (a1.id, a2, ())).bind fun (y3, _) => some (y3, ())

noncomputable def q9z_s0 {ρ : Type} (n : Nat) (rec : (List Ev.Node) × Int × Int × Int × Int × Unit → Option ρ) (kx : (List Ev.Node) × Int × Int × Int × Unit → Option ρ) (kr : Unit → Option ρ) : (List Ev.Node) × Int × Int × Int × Int × Unit → Option ρ :=
  fun (v3, v4, v5, v6, v7, _) =>
  (bif decide ((v6 : Int) < v7) then
  (ix v3 (IntKind.wrap .i64 (bshr .u64 (IntKind.wrap .u64 (IntKind.wrap .i64 (v6 + v7))) 1))).bind fun x8 =>
  (q45z ((Ev.Node.mk x8.id x8.labels x8.props), v4, ())).bind fun (y9, _) =>
  (bif decide ((y9 : Int) < 0) then rec (v3, v4, v5, IntKind.wrap .i64 ((IntKind.wrap .i64 (bshr .u64 (IntKind.wrap .u64 (IntKind.wrap .i64 (v6 + v7))) 1)) + 1), v7, ())
  else rec (v3, v4, v5, v6, IntKind.wrap .i64 (bshr .u64 (IntKind.wrap .u64 (IntKind.wrap .i64 (v6 + v7))) 1), ()))
  else kx (v3, v4, v5, v6, ()))

noncomputable def q9z (n : Nat) : (List Ev.Node) × Int × Unit → Option (Int × Bool × Unit) :=
  fun (a1, a2, _) =>
  iterN (fun rc16 => q9z_s0 n rc16 (fun (v10, v11, v12, v13, _) =>
  (bif decide ((v13 : Int) < v12) then
  (ix v10 v13).bind fun x14 =>
  (q45z ((Ev.Node.mk x14.id x14.labels x14.props), v11, ())).bind fun (y15, _) => some (v13, (y15 : Int) == 0, ())
  else some (v13, false, ()))) (fun (_) => none)) (n) (a1, a2, (a1.length : Int), 0, (a1.length : Int), ())

noncomputable def q56z (n : Nat) : Ev.Graph × Int × Unit → Option (Int × Unit) :=
  fun (a1, a2, _) =>
  (q9z n (a1.nodes, a2, ())).bind fun (y3, y4, _) =>
  (bif !y4 then some ((-1), ())
  else some (y3, ()))

noncomputable def q47z_s0 {ρ : Type} (n : Nat) (rec : Int × (List Ev.Node) × Int × Int × (Ev.Graph × Unit) × Unit → Option ρ) (kx : Int × (Ev.Graph × Unit) × Unit → Option ρ) (kr : Int × Unit → Option ρ) : Int × (List Ev.Node) × Int × Int × (Ev.Graph × Unit) × Unit → Option ρ :=
  fun (v2, v3, v4, v5, o6, _) =>
  (bif decide ((v5 : Int) < v4) then
  (ix v3 v5).bind fun x7 =>
  (bif decide ((x7.id : Int) ≤ v2) then kr (6, ())
  else
  (q46z n (x7.labels, ())).bind fun (y8, _) =>
  (q48z n (x7.props, ())).bind fun (y9, _) =>
  (q31z n (([y8, y9] : List Int), ())).bind fun (y10, _) =>
  (bif (y10 : Int) != 0 then kr (y10, ())
  else rec (x7.id, v3, v4, IntKind.wrap .i64 (v5 + 1), ((Ev.Graph.mk o6.1.nodes o6.1.edges o6.1.next), ()), ())))
  else kx (v2, ((Ev.Graph.mk o6.1.nodes o6.1.edges o6.1.next), ()), ()))

noncomputable def q47z_s2 {ρ : Type} (n : Nat) (rec : Int × Int × (List Ev.Edg) × Int × Int × (Ev.Graph × Unit) × Unit → Option ρ) (kx : Int × Int × (Ev.Graph × Unit) × Unit → Option ρ) (kr : Int × Unit → Option ρ) : Int × Int × (List Ev.Edg) × Int × Int × (Ev.Graph × Unit) × Unit → Option ρ :=
  fun (v14, v15, v16, v17, v18, o19, _) =>
  (bif decide ((v18 : Int) < v17) then
  (ix v16 v18).bind fun x20 =>
  (bif decide ((x20.id : Int) ≤ v14) then kr (6, ())
  else
  (q56z n ((Ev.Graph.mk o19.1.nodes o19.1.edges o19.1.next), x20.id, ())).bind fun (y21, _) =>
  (bif decide ((y21 : Int) ≥ 0) then kr (6, ())
  else
  (q57z n (x20.type, ())).bind fun (y22, _) =>
  (bif !y22 then kr (6, ())
  else
  (q56z n ((Ev.Graph.mk o19.1.nodes o19.1.edges o19.1.next), x20.src, ())).bind fun (y23, _) =>
  (bif decide ((y23 : Int) < 0) then kr (5, ())
  else
  (q56z n ((Ev.Graph.mk o19.1.nodes o19.1.edges o19.1.next), x20.dst, ())).bind fun (y24, _) =>
  (bif decide ((y24 : Int) < 0) then kr (5, ())
  else
  (q48z n (x20.props, ())).bind fun (y25, _) =>
  (bif (y25 : Int) != 0 then kr (y25, ())
  else rec (x20.id, v15, v16, v17, IntKind.wrap .i64 (v18 + 1), ((Ev.Graph.mk o19.1.nodes o19.1.edges o19.1.next), ()), ())))))))
  else kx (v14, v15, ((Ev.Graph.mk o19.1.nodes o19.1.edges o19.1.next), ()), ()))

noncomputable def F_q47z_s0 {ρ : Type} (n : Nat) (kr : Int × Unit → Option ρ) : Int → Ev.Node → (Int × (Ev.Graph × Unit) × Unit) → ((Int × (Ev.Graph × Unit) × Unit) → Option ρ) → Option ρ :=
  fun v5 x7 (v2, o6, _) rec =>
  (bif decide ((x7.id : Int) ≤ v2) then kr (6, ())
  else
  (q46z n (x7.labels, ())).bind fun (y8, _) =>
  (q48z n (x7.props, ())).bind fun (y9, _) =>
  (q31z n (([y8, y9] : List Int), ())).bind fun (y10, _) =>
  (bif (y10 : Int) != 0 then kr (y10, ())
  else rec (x7.id, ((Ev.Graph.mk o6.1.nodes o6.1.edges o6.1.next), ()), ())))

theorem R_q47z_s0 {ρ : Type} (n : Nat) (kx : Int × (Ev.Graph × Unit) × Unit → Option ρ) (kr : Int × Unit → Option ρ) (l : List Ev.Node) (fuel : Nat) (v2 : Int) (o6 : Ev.Graph × Unit) (hl : l.length ≤ 9223372036854775807) (hf : l.length < fuel) :
    iterN (fun rc => q47z_s0 n rc kx kr) fuel (v2, l, (l.length : Int), 0, o6, ()) = foldK (F_q47z_s0 n kr) (fun (v2, o6, _) => kx (v2, ((Ev.Graph.mk o6.1.nodes o6.1.edges o6.1.next), ()), ())) 0 l (v2, o6, ()) :=
  range_listM l (fun i (v2, o6, _) => (v2, l, (l.length : Int), i, o6, ())) _ _ _ (fun rec i s => rfl) hl fuel (v2, o6, ()) hf

noncomputable def F_q47z_s2 {ρ : Type} (n : Nat) (kr : Int × Unit → Option ρ) : Int → Ev.Edg → (Int × Int × (Ev.Graph × Unit) × Unit) → ((Int × Int × (Ev.Graph × Unit) × Unit) → Option ρ) → Option ρ :=
  fun v18 x20 (v14, v15, o19, _) rec =>
  (bif decide ((x20.id : Int) ≤ v14) then kr (6, ())
  else
  (q56z n ((Ev.Graph.mk o19.1.nodes o19.1.edges o19.1.next), x20.id, ())).bind fun (y21, _) =>
  (bif decide ((y21 : Int) ≥ 0) then kr (6, ())
  else
  (q57z n (x20.type, ())).bind fun (y22, _) =>
  (bif !y22 then kr (6, ())
  else
  (q56z n ((Ev.Graph.mk o19.1.nodes o19.1.edges o19.1.next), x20.src, ())).bind fun (y23, _) =>
  (bif decide ((y23 : Int) < 0) then kr (5, ())
  else
  (q56z n ((Ev.Graph.mk o19.1.nodes o19.1.edges o19.1.next), x20.dst, ())).bind fun (y24, _) =>
  (bif decide ((y24 : Int) < 0) then kr (5, ())
  else
  (q48z n (x20.props, ())).bind fun (y25, _) =>
  (bif (y25 : Int) != 0 then kr (y25, ())
  else rec (x20.id, v15, ((Ev.Graph.mk o19.1.nodes o19.1.edges o19.1.next), ()), ())))))))

theorem R_q47z_s2 {ρ : Type} (n : Nat) (kx : Int × Int × (Ev.Graph × Unit) × Unit → Option ρ) (kr : Int × Unit → Option ρ) (l : List Ev.Edg) (fuel : Nat) (v14 : Int) (v15 : Int) (o19 : Ev.Graph × Unit) (hl : l.length ≤ 9223372036854775807) (hf : l.length < fuel) :
    iterN (fun rc => q47z_s2 n rc kx kr) fuel (v14, v15, l, (l.length : Int), 0, o19, ()) = foldK (F_q47z_s2 n kr) (fun (v14, v15, o19, _) => kx (v14, v15, ((Ev.Graph.mk o19.1.nodes o19.1.edges o19.1.next), ()), ())) 0 l (v14, v15, o19, ()) :=
  range_listM l (fun i (v14, v15, o19, _) => (v14, v15, l, (l.length : Int), i, o19, ())) _ _ _ (fun rec i s => rfl) hl fuel (v14, v15, o19, ()) hf

noncomputable def q47z (n : Nat) : Ev.Graph × Unit → Option (Int × Unit) :=
  fun (a1, _) =>
  (bif (decide (((a1.nodes.length : Int) : Int) > 40)) || (decide (((a1.edges.length : Int) : Int) > 60)) then some (2, ())
  else
  iterN (fun rc31 => q47z_s0 n rc31 (fun (v11, o12, _) =>
  iterN (fun rc30 => q47z_s2 n rc30 (fun (v26, v27, o28, _) =>
  (bif (decide ((o28.1.next : Int) ≤ (if v26 > v27 then v26 else v27))) || (decide ((o28.1.next : Int) > 1099511627776)) then some (9, ())
  else some (0, ()))) (fun (v29, _) => some (v29, ()))) (n) (0, v11, o12.1.edges, (o12.1.edges.length : Int), 0, ((Ev.Graph.mk o12.1.nodes o12.1.edges o12.1.next), ()), ())) (fun (v13, _) => some (v13, ()))) (n) (0, a1.nodes, (a1.nodes.length : Int), 0, ((Ev.Graph.mk a1.nodes a1.edges a1.next), ()), ()))

noncomputable def q13z_s0 {ρ : Type} (n : Nat) (rec : (List ByteArray) × (List ByteArray) × Int × Int × Unit → Option ρ) (kx : Unit → Option ρ) (kr : Bool × Unit → Option ρ) : (List ByteArray) × (List ByteArray) × Int × Int × Unit → Option ρ :=
  fun (v3, v4, v5, v6, _) =>
  (bif decide ((v6 : Int) < v5) then
  (ix v3 v6).bind fun x9 =>
  (ix v4 v6).bind fun x10 =>
  (bif !(seq x9 x10) then kr (false, ())
  else rec (v3, v4, v5, IntKind.wrap .i64 (v6 + 1), ()))
  else kx (()))

noncomputable def F_q13z_s0 {ρ : Type} (n : Nat) (kr : Bool × Unit → Option ρ) : Int → ByteArray → ((List ByteArray) × Unit) → (((List ByteArray) × Unit) → Option ρ) → Option ρ :=
  fun v6 x9 (v4, _) rec =>
  (ix v4 v6).bind fun x10 =>
  (bif !(seq x9 x10) then kr (false, ())
  else rec (v4, ()))

theorem R_q13z_s0 {ρ : Type} (n : Nat) (kx : Unit → Option ρ) (kr : Bool × Unit → Option ρ) (l : List ByteArray) (fuel : Nat) (v4 : List ByteArray) (hl : l.length ≤ 9223372036854775807) (hf : l.length < fuel) :
    iterN (fun rc => q13z_s0 n rc kx kr) fuel (l, v4, (l.length : Int), 0, ()) = foldK (F_q13z_s0 n kr) (fun (v4, _) => kx (())) 0 l (v4, ()) :=
  range_listM l (fun i (v4, _) => (l, v4, (l.length : Int), i, ())) _ _ _ (fun rec i s => rfl) hl fuel (v4, ()) hf

noncomputable def q13z (n : Nat) : (List ByteArray) × (List ByteArray) × Unit → Option (Bool × Unit) :=
  fun (a1, a2, _) =>
  (bif ((a1.length : Int) : Int) != (a2.length : Int) then some (false, ())
  else
  iterN (fun rc12 => q13z_s0 n rc12 (fun (_) => some (true, ())) (fun (v11, _) => some (v11, ()))) (n) (a1, a2, (a1.length : Int), 0, ()))

noncomputable def q32z : ByteArray × Unit → Option (Bool × Unit) :=
  fun (a1, _) => some (!(seq a1 a1), ())

noncomputable def q27z : ByteArray × ByteArray × Unit → Option (Int × Unit) :=
  fun (a1, a2, _) =>
  (q32z (a1, ())).bind fun (y3, _) =>
  (q32z (a2, ())).bind fun (y4, _) =>
  (bif y3 then
  (bif y4 then some (0, ())
  else some ((-1), ()))
  else
  (bif y4 then some (1, ())
  else
  (bif sless a1 a2 then some ((-1), ())
  else
  (bif !(sless a1 a2 || seq a1 a2) then some (1, ())
  else some (0, ())))))

noncomputable def q3z_s0 {ρ : Type} (self_q53z : Ev.Val × Ev.Val × Unit → Option (Int × Unit)) (n : Nat) (rec : (List Ev.Val) × (List Ev.Val) × (List Ev.Val) × Int × Int × Unit → Option ρ) (kx : (List Ev.Val) × (List Ev.Val) × Unit → Option ρ) (kr : Int × Unit → Option ρ) : (List Ev.Val) × (List Ev.Val) × (List Ev.Val) × Int × Int × Unit → Option ρ :=
  fun (v3, v4, v5, v6, v7, _) =>
  (bif decide ((v7 : Int) < v6) then
  (ix v5 v7).bind fun x8 =>
  (bif decide ((v7 : Int) ≥ (v4.length : Int)) then kr (1, ())
  else
  (ix v4 v7).bind fun x9 =>
  (self_q53z ((Ev.Val.mk x8.kind x8.n x8.s x8.l), (Ev.Val.mk x9.kind x9.n x9.s x9.l), ())).bind fun (y10, _) =>
  (bif (y10 : Int) != 0 then kr (y10, ())
  else rec (v3, v4, v5, v6, IntKind.wrap .i64 (v7 + 1), ())))
  else kx (v3, v4, ()))

noncomputable def F_q3z_s0 {ρ : Type} (self_q53z : Ev.Val × Ev.Val × Unit → Option (Int × Unit)) (n : Nat) (kr : Int × Unit → Option ρ) : Int → Ev.Val → ((List Ev.Val) × (List Ev.Val) × Unit) → (((List Ev.Val) × (List Ev.Val) × Unit) → Option ρ) → Option ρ :=
  fun v7 x8 (v3, v4, _) rec =>
  (bif decide ((v7 : Int) ≥ (v4.length : Int)) then kr (1, ())
  else
  (ix v4 v7).bind fun x9 =>
  (self_q53z ((Ev.Val.mk x8.kind x8.n x8.s x8.l), (Ev.Val.mk x9.kind x9.n x9.s x9.l), ())).bind fun (y10, _) =>
  (bif (y10 : Int) != 0 then kr (y10, ())
  else rec (v3, v4, ())))

theorem R_q3z_s0 {ρ : Type} (self_q53z : Ev.Val × Ev.Val × Unit → Option (Int × Unit)) (n : Nat) (kx : (List Ev.Val) × (List Ev.Val) × Unit → Option ρ) (kr : Int × Unit → Option ρ) (l : List Ev.Val) (fuel : Nat) (v3 : List Ev.Val) (v4 : List Ev.Val) (hl : l.length ≤ 9223372036854775807) (hf : l.length < fuel) :
    iterN (fun rc => q3z_s0 self_q53z n rc kx kr) fuel (v3, v4, l, (l.length : Int), 0, ()) = foldK (F_q3z_s0 self_q53z n kr) (fun (v3, v4, _) => kx (v3, v4, ())) 0 l (v3, v4, ()) :=
  range_listM l (fun i (v3, v4, _) => (v3, v4, l, (l.length : Int), i, ())) _ _ _ (fun rec i s => rfl) hl fuel (v3, v4, ()) hf

noncomputable def q3z (self_q53z : Ev.Val × Ev.Val × Unit → Option (Int × Unit)) (n : Nat) : (List Ev.Val) × (List Ev.Val) × Unit → Option (Int × Unit) :=
  fun (a1, a2, _) =>
  iterN (fun rc14 => q3z_s0 self_q53z n rc14 (fun (v11, v12, _) =>
  (bif decide (((v11.length : Int) : Int) < (v12.length : Int)) then some ((-1), ())
  else some (0, ()))) (fun (v13, _) => some (v13, ()))) (n) (a1, a2, a1, (a1.length : Int), 0, ())

noncomputable def q55z_s0 {ρ : Type} (n : Nat) (rec : Int × (List Int) × Int × Int × Unit → Option ρ) (kx : Int × Unit → Option ρ) (kr : Int × Unit → Option ρ) : Int × (List Int) × Int × Int × Unit → Option ρ :=
  fun (v2, v3, v4, v5, _) =>
  (bif decide ((v5 : Int) < v4) then
  (ix v3 v5).bind fun x6 =>
  (bif (x6 : Int) != v2 then kr (x6, ())
  else rec (v2, v3, v4, IntKind.wrap .i64 (v5 + 1), ()))
  else kx (v2, ()))

noncomputable def F_q55z_s0 {ρ : Type} (n : Nat) (kr : Int × Unit → Option ρ) : Int → Int → (Int × Unit) → ((Int × Unit) → Option ρ) → Option ρ :=
  fun v5 x6 (v2, _) rec =>
  (bif (x6 : Int) != v2 then kr (x6, ())
  else rec (v2, ()))

theorem R_q55z_s0 {ρ : Type} (n : Nat) (kx : Int × Unit → Option ρ) (kr : Int × Unit → Option ρ) (l : List Int) (fuel : Nat) (v2 : Int) (hl : l.length ≤ 9223372036854775807) (hf : l.length < fuel) :
    iterN (fun rc => q55z_s0 n rc kx kr) fuel (v2, l, (l.length : Int), 0, ()) = foldK (F_q55z_s0 n kr) (fun (v2, _) => kx (v2, ())) 0 l (v2, ()) :=
  range_listM l (fun i (v2, _) => (v2, l, (l.length : Int), i, ())) _ _ _ (fun rec i s => rfl) hl fuel (v2, ()) hf

noncomputable def q55z (n : Nat) : (List Int) × Unit → Option (Int × Unit) :=
  fun (a1, _) =>
  iterN (fun rc9 => q55z_s0 n rc9 (fun (v7, _) => some (v7, ())) (fun (v8, _) => some (v8, ()))) (n) (0, a1, (a1.length : Int), 0, ())

noncomputable def q53z_b (self_q53z : Ev.Val × Ev.Val × Unit → Option (Int × Unit)) (n : Nat) : Ev.Val × Ev.Val × Unit → Option (Int × Unit) :=
  fun (a1, a2, _) =>
  (q33z (a1.kind, a2.kind, ())).bind fun (y3, _) =>
  (bif (y3 : Int) != 0 then some (y3, ())
  else
  (q33z (a1.n, a2.n, ())).bind fun (y4, _) =>
  (q27z (a1.s, a2.s, ())).bind fun (y5, _) =>
  (q3z self_q53z n (a1.l, a2.l, ())).bind fun (y6, _) =>
  (q55z n (([y4, y5, y6] : List Int), ())).bind fun (y7, _) => some (y7, ()))

noncomputable def q53z : Nat → Ev.Val × Ev.Val × Unit → Option (Int × Unit)
  | 0, _ => none
  | n + 1, x => q53z_b (q53z n) n x

noncomputable def q29z (n : Nat) : Ev.Prp × Ev.Prp × Unit → Option (Bool × Unit) :=
  fun (a1, a2, _) =>
  (bif seq a1.name a2.name then
  (q53z n ((Ev.Val.mk a1.val.kind a1.val.n a1.val.s a1.val.l), (Ev.Val.mk a2.val.kind a2.val.n a2.val.s a2.val.l), ())).bind fun (y3, _) => some ((y3 : Int) == 0, ())
  else some (false, ()))

noncomputable def q4z_s0 {ρ : Type} (n : Nat) (rec : (List Ev.Prp) × (List Ev.Prp) × Int × Int × Unit → Option ρ) (kx : Unit → Option ρ) (kr : Bool × Unit → Option ρ) : (List Ev.Prp) × (List Ev.Prp) × Int × Int × Unit → Option ρ :=
  fun (v3, v4, v5, v6, _) =>
  (bif decide ((v6 : Int) < v5) then
  (ix v4 v6).bind fun x7 =>
  (ix v3 v6).bind fun x8 =>
  (q29z n ((Ev.Prp.mk x7.name (Ev.Val.mk x7.val.kind x7.val.n x7.val.s x7.val.l)), (Ev.Prp.mk x8.name (Ev.Val.mk x8.val.kind x8.val.n x8.val.s x8.val.l)), ())).bind fun (y9, _) =>
  (bif !y9 then kr (false, ())
  else rec (v3, v4, v5, IntKind.wrap .i64 (v6 + 1), ()))
  else kx (()))

noncomputable def F_q4z_s0 {ρ : Type} (n : Nat) (kr : Bool × Unit → Option ρ) : Int → Ev.Prp → ((List Ev.Prp) × Unit) → (((List Ev.Prp) × Unit) → Option ρ) → Option ρ :=
  fun v6 x7 (v3, _) rec =>
  (ix v3 v6).bind fun x8 =>
  (q29z n ((Ev.Prp.mk x7.name (Ev.Val.mk x7.val.kind x7.val.n x7.val.s x7.val.l)), (Ev.Prp.mk x8.name (Ev.Val.mk x8.val.kind x8.val.n x8.val.s x8.val.l)), ())).bind fun (y9, _) =>
  (bif !y9 then kr (false, ())
  else rec (v3, ()))

theorem R_q4z_s0 {ρ : Type} (n : Nat) (kx : Unit → Option ρ) (kr : Bool × Unit → Option ρ) (l : List Ev.Prp) (fuel : Nat) (v3 : List Ev.Prp) (hl : l.length ≤ 9223372036854775807) (hf : l.length < fuel) :
    iterN (fun rc => q4z_s0 n rc kx kr) fuel (v3, l, (l.length : Int), 0, ()) = foldK (F_q4z_s0 n kr) (fun (v3, _) => kx (())) 0 l (v3, ()) :=
  range_listM l (fun i (v3, _) => (v3, l, (l.length : Int), i, ())) _ _ _ (fun rec i s => rfl) hl fuel (v3, ()) hf

noncomputable def q4z (n : Nat) : (List Ev.Prp) × (List Ev.Prp) × Unit → Option (Bool × Unit) :=
  fun (a1, a2, _) =>
  (bif ((a1.length : Int) : Int) != (a2.length : Int) then some (false, ())
  else
  iterN (fun rc11 => q4z_s0 n rc11 (fun (_) => some (true, ())) (fun (v10, _) => some (v10, ()))) (n) (a2, a1, (a1.length : Int), 0, ()))

noncomputable def q36z (n : Nat) : (List Ev.Prp) × (List Ev.Prp) × Unit → Option (Bool × Unit) :=
  fun (a1, a2, _) =>
  (q4z n (a1, a2, ())).bind fun (y3, _) => some (y3, ())

noncomputable def q41z (n : Nat) : Ev.Node × Ev.Node × Unit → Option (Bool × Unit) :=
  fun (a1, a2, _) =>
  (bif (a1.id : Int) == a2.id then
  (q13z n (a1.labels, a2.labels, ())).bind fun (y3, _) =>
  (bif y3 then
  (q36z n (a1.props, a2.props, ())).bind fun (y4, _) => some (y4, ())
  else some (false, ()))
  else some (false, ()))

noncomputable def q17z (n : Nat) : Ev.Node × Unit × (Ev.Node × Unit) × Unit → Option (Bool × Unit × (Ev.Node × Unit) × Unit) :=
  fun (a1, o2, o3, _) =>
  (q41z n ((Ev.Node.mk o3.1.id o3.1.labels o3.1.props), (Ev.Node.mk a1.id a1.labels a1.props), ())).bind fun (y4, _) => some (y4, (()), ((Ev.Node.mk o3.1.id o3.1.labels o3.1.props), ()), ())

noncomputable def q8z_s0 {ρ : Type} (n : Nat) (rec : (List Ev.Node) × Int × Int × Unit × (Ev.Node × Unit) × Unit → Option ρ) (kx : Unit × (Ev.Node × Unit) × Unit → Option ρ) (kr : Int × Unit × (Ev.Node × Unit) × Unit → Option ρ) : (List Ev.Node) × Int × Int × Unit × (Ev.Node × Unit) × Unit → Option ρ :=
  fun (v4, v5, v6, o7, o8, _) =>
  (bif decide ((v6 : Int) < v5) then
  (ix v4 v6).bind fun x9 =>
  (q17z n ((Ev.Node.mk x9.id x9.labels x9.props), (()), ((Ev.Node.mk o8.1.id o8.1.labels o8.1.props), ()), ())).bind fun (y10, o11, o12, _) =>
  (bif y10 then kr (v6, (()), ((Ev.Node.mk o12.1.id o12.1.labels o12.1.props), ()), ())
  else rec (v4, v5, IntKind.wrap .i64 (v6 + 1), (()), ((Ev.Node.mk o12.1.id o12.1.labels o12.1.props), ()), ()))
  else kx ((()), ((Ev.Node.mk o8.1.id o8.1.labels o8.1.props), ()), ()))

noncomputable def F_q8z_s0 {ρ : Type} (n : Nat) (kr : Int × Unit × (Ev.Node × Unit) × Unit → Option ρ) : Int → Ev.Node → (Unit × (Ev.Node × Unit) × Unit) → ((Unit × (Ev.Node × Unit) × Unit) → Option ρ) → Option ρ :=
  fun v6 x9 (o7, o8, _) rec =>
  (q17z n ((Ev.Node.mk x9.id x9.labels x9.props), (()), ((Ev.Node.mk o8.1.id o8.1.labels o8.1.props), ()), ())).bind fun (y10, o11, o12, _) =>
  (bif y10 then kr (v6, (()), ((Ev.Node.mk o12.1.id o12.1.labels o12.1.props), ()), ())
  else rec ((()), ((Ev.Node.mk o12.1.id o12.1.labels o12.1.props), ()), ()))

theorem R_q8z_s0 {ρ : Type} (n : Nat) (kx : Unit × (Ev.Node × Unit) × Unit → Option ρ) (kr : Int × Unit × (Ev.Node × Unit) × Unit → Option ρ) (l : List Ev.Node) (fuel : Nat) (o7 : Unit) (o8 : Ev.Node × Unit) (hl : l.length ≤ 9223372036854775807) (hf : l.length < fuel) :
    iterN (fun rc => q8z_s0 n rc kx kr) fuel (l, (l.length : Int), 0, o7, o8, ()) = foldK (F_q8z_s0 n kr) (fun (o7, o8, _) => kx ((()), ((Ev.Node.mk o8.1.id o8.1.labels o8.1.props), ()), ())) 0 l (o7, o8, ()) :=
  range_listM l (fun i (o7, o8, _) => (l, (l.length : Int), i, o7, o8, ())) _ _ _ (fun rec i s => rfl) hl fuel (o7, o8, ()) hf

noncomputable def q8z (n : Nat) : (List Ev.Node) × Unit × (Ev.Node × Unit) × Unit → Option (Int × Unit × (Ev.Node × Unit) × Unit) :=
  fun (a1, o2, o3, _) =>
  iterN (fun rc18 => q8z_s0 n rc18 (fun (o13, o14, _) => some ((-1), (()), ((Ev.Node.mk o14.1.id o14.1.labels o14.1.props), ()), ())) (fun (v15, o16, o17, _) => some (v15, (()), ((Ev.Node.mk o17.1.id o17.1.labels o17.1.props), ()), ()))) (n) (a1, (a1.length : Int), 0, (()), ((Ev.Node.mk o3.1.id o3.1.labels o3.1.props), ()), ())

noncomputable def q6z (n : Nat) : (List Ev.Node) × Unit × (Ev.Node × Unit) × Unit → Option (Bool × Unit × (Ev.Node × Unit) × Unit) :=
  fun (a1, o2, o3, _) =>
  (q8z n (a1, (()), ((Ev.Node.mk o3.1.id o3.1.labels o3.1.props), ()), ())).bind fun (y4, o5, o6, _) => some (decide ((y4 : Int) ≥ 0), (()), ((Ev.Node.mk o6.1.id o6.1.labels o6.1.props), ()), ())

noncomputable def q12z : (List ByteArray) × Unit → Option ((List ByteArray) × Unit) :=
  fun (a1, _) =>
  nilq a1 (some (([] : List ByteArray), ())) (
  ck (room (([] : List ByteArray) ++ a1).length 16) (some (([] : List ByteArray) ++ a1, ())))

noncomputable def q58z_s0 {ρ : Type} (self_q58z : Ev.Val × Unit → Option (Ev.Val × Unit)) (n : Nat) (rec : (List Ev.Val) × Int × Int × (Int × Int × ByteArray × Unit) × (Ev.Val × Unit) × (List Ev.Val) × Unit → Option ρ) (kx : (Int × Int × ByteArray × Unit) × (Ev.Val × Unit) × (List Ev.Val) × Unit → Option ρ) (kr : Unit → Option ρ) : (List Ev.Val) × Int × Int × (Int × Int × ByteArray × Unit) × (Ev.Val × Unit) × (List Ev.Val) × Unit → Option ρ :=
  fun (v2, v3, v4, o5, o6, o7, _) =>
  (bif decide ((v4 : Int) < v3) then
  (ix v2 v4).bind fun x8 =>
  (self_q58z ((Ev.Val.mk x8.kind x8.n x8.s x8.l), ())).bind fun (y10, _) =>
  ck (room (o7 ++ ([(Ev.Val.mk y10.kind y10.n y10.s y10.l)] : List Ev.Val)).length 56) (rec (v2, v3, IntKind.wrap .i64 (v4 + 1), (o5.1, o5.2.1, o5.2.2.1, ()), ((Ev.Val.mk o6.1.kind o6.1.n o6.1.s o6.1.l), ()), o7 ++ ([(Ev.Val.mk y10.kind y10.n y10.s y10.l)] : List Ev.Val), ()))
  else kx ((o5.1, o5.2.1, o5.2.2.1, ()), ((Ev.Val.mk o6.1.kind o6.1.n o6.1.s o6.1.l), ()), o7, ()))

noncomputable def F_q58z_s0 {ρ : Type} (self_q58z : Ev.Val × Unit → Option (Ev.Val × Unit)) (n : Nat) (kr : Unit → Option ρ) : Int → Ev.Val → ((Int × Int × ByteArray × Unit) × (Ev.Val × Unit) × (List Ev.Val) × Unit) → (((Int × Int × ByteArray × Unit) × (Ev.Val × Unit) × (List Ev.Val) × Unit) → Option ρ) → Option ρ :=
  fun v4 x8 (o5, o6, o7, _) rec =>
  (self_q58z ((Ev.Val.mk x8.kind x8.n x8.s x8.l), ())).bind fun (y10, _) =>
  ck (room (o7 ++ ([(Ev.Val.mk y10.kind y10.n y10.s y10.l)] : List Ev.Val)).length 56) (rec ((o5.1, o5.2.1, o5.2.2.1, ()), ((Ev.Val.mk o6.1.kind o6.1.n o6.1.s o6.1.l), ()), o7 ++ ([(Ev.Val.mk y10.kind y10.n y10.s y10.l)] : List Ev.Val), ()))

theorem R_q58z_s0 {ρ : Type} (self_q58z : Ev.Val × Unit → Option (Ev.Val × Unit)) (n : Nat) (kx : (Int × Int × ByteArray × Unit) × (Ev.Val × Unit) × (List Ev.Val) × Unit → Option ρ) (kr : Unit → Option ρ) (l : List Ev.Val) (fuel : Nat) (o5 : Int × Int × ByteArray × Unit) (o6 : Ev.Val × Unit) (o7 : List Ev.Val) (hl : l.length ≤ 9223372036854775807) (hf : l.length < fuel) :
    iterN (fun rc => q58z_s0 self_q58z n rc kx kr) fuel (l, (l.length : Int), 0, o5, o6, o7, ()) = foldK (F_q58z_s0 self_q58z n kr) (fun (o5, o6, o7, _) => kx ((o5.1, o5.2.1, o5.2.2.1, ()), ((Ev.Val.mk o6.1.kind o6.1.n o6.1.s o6.1.l), ()), o7, ())) 0 l (o5, o6, o7, ()) :=
  range_listM l (fun i (o5, o6, o7, _) => (l, (l.length : Int), i, o5, o6, o7, ())) _ _ _ (fun rec i s => rfl) hl fuel (o5, o6, o7, ()) hf

noncomputable def q58z_b (self_q58z : Ev.Val × Unit → Option (Ev.Val × Unit)) (n : Nat) : Ev.Val × Unit → Option (Ev.Val × Unit) :=
  fun (a1, _) =>
  iterN (fun rc14 => q58z_s0 self_q58z n rc14 (fun (o11, o12, o13, _) => some ((Ev.Val.mk o11.1 o11.2.1 o11.2.2.1 o13), ())) (fun (_) => none)) (n) (a1.l, (a1.l.length : Int), 0, (a1.kind, a1.n, a1.s, ()), ((Ev.Val.mk 0 0 (⟨#[]⟩ : ByteArray) ([] : List Ev.Val)), ()), ([] : List Ev.Val), ())

noncomputable def q58z : Nat → Ev.Val × Unit → Option (Ev.Val × Unit)
  | 0, _ => none
  | n + 1, x => q58z_b (q58z n) n x

noncomputable def q35z_s0 {ρ : Type} (n : Nat) (rec : (List Ev.Prp) × Int × Int × (List Ev.Prp) × Unit → Option ρ) (kx : (List Ev.Prp) × Unit → Option ρ) (kr : Unit → Option ρ) : (List Ev.Prp) × Int × Int × (List Ev.Prp) × Unit → Option ρ :=
  fun (v2, v3, v4, o5, _) =>
  (bif decide ((v4 : Int) < v3) then
  (ix v2 v4).bind fun x6 =>
  (q58z n ((Ev.Val.mk x6.val.kind x6.val.n x6.val.s x6.val.l), ())).bind fun (y7, _) =>
  ck (room (o5 ++ ([(Ev.Prp.mk x6.name (Ev.Val.mk y7.kind y7.n y7.s y7.l))] : List Ev.Prp)).length 72) (rec (v2, v3, IntKind.wrap .i64 (v4 + 1), o5 ++ ([(Ev.Prp.mk x6.name (Ev.Val.mk y7.kind y7.n y7.s y7.l))] : List Ev.Prp), ()))
  else kx (o5, ()))

noncomputable def F_q35z_s0 {ρ : Type} (n : Nat) (kr : Unit → Option ρ) : Int → Ev.Prp → ((List Ev.Prp) × Unit) → (((List Ev.Prp) × Unit) → Option ρ) → Option ρ :=
  fun v4 x6 (o5, _) rec =>
  (q58z n ((Ev.Val.mk x6.val.kind x6.val.n x6.val.s x6.val.l), ())).bind fun (y7, _) =>
  ck (room (o5 ++ ([(Ev.Prp.mk x6.name (Ev.Val.mk y7.kind y7.n y7.s y7.l))] : List Ev.Prp)).length 72) (rec (o5 ++ ([(Ev.Prp.mk x6.name (Ev.Val.mk y7.kind y7.n y7.s y7.l))] : List Ev.Prp), ()))

theorem R_q35z_s0 {ρ : Type} (n : Nat) (kx : (List Ev.Prp) × Unit → Option ρ) (kr : Unit → Option ρ) (l : List Ev.Prp) (fuel : Nat) (o5 : List Ev.Prp) (hl : l.length ≤ 9223372036854775807) (hf : l.length < fuel) :
    iterN (fun rc => q35z_s0 n rc kx kr) fuel (l, (l.length : Int), 0, o5, ()) = foldK (F_q35z_s0 n kr) (fun (o5, _) => kx (o5, ())) 0 l (o5, ()) :=
  range_listM l (fun i (o5, _) => (l, (l.length : Int), i, o5, ())) _ _ _ (fun rec i s => rfl) hl fuel (o5, ()) hf

noncomputable def q35z (n : Nat) : (List Ev.Prp) × Unit → Option ((List Ev.Prp) × Unit) :=
  fun (a1, _) =>
  iterN (fun rc9 => q35z_s0 n rc9 (fun (o8, _) => some (o8, ())) (fun (_) => none)) (n) (a1, (a1.length : Int), 0, ([] : List Ev.Prp), ())

noncomputable def q38z (n : Nat) : Ev.Node × Unit → Option (Ev.Node × Unit) :=
  fun (a1, _) =>
  (q12z (a1.labels, ())).bind fun (y2, _) =>
  (q35z n (a1.props, ())).bind fun (y3, _) => some ((Ev.Node.mk a1.id y2 y3), ())

noncomputable def q11z_s0 {ρ : Type} (n : Nat) (rec : (List Ev.Node) × (List Ev.Node) × Int × Int × Unit × (List Ev.Node) × Unit → Option ρ) (kx : (List Ev.Node) × Unit → Option ρ) (kr : Unit → Option ρ) : (List Ev.Node) × (List Ev.Node) × Int × Int × Unit × (List Ev.Node) × Unit → Option ρ :=
  fun (v3, v4, v5, v6, o7, o8, _) =>
  (bif decide ((v6 : Int) < v5) then
  (ix v4 v6).bind fun x9 =>
  (q6z n (v3, (()), ((Ev.Node.mk x9.id x9.labels x9.props), ()), ())).bind fun (y10, o11, o12, _) =>
  (bif !y10 then
  (q38z n ((Ev.Node.mk o12.1.id o12.1.labels o12.1.props), ())).bind fun (y13, _) =>
  ck (room (o8 ++ ([(Ev.Node.mk y13.id y13.labels y13.props)] : List Ev.Node)).length 56) (rec (v3, v4, v5, IntKind.wrap .i64 (v6 + 1), (()), o8 ++ ([(Ev.Node.mk y13.id y13.labels y13.props)] : List Ev.Node), ()))
  else rec (v3, v4, v5, IntKind.wrap .i64 (v6 + 1), (()), o8, ()))
  else kx (o8, ()))

noncomputable def F_q11z_s0 {ρ : Type} (n : Nat) (kr : Unit → Option ρ) : Int → Ev.Node → ((List Ev.Node) × Unit × (List Ev.Node) × Unit) → (((List Ev.Node) × Unit × (List Ev.Node) × Unit) → Option ρ) → Option ρ :=
  fun v6 x9 (v3, o7, o8, _) rec =>
  (q6z n (v3, (()), ((Ev.Node.mk x9.id x9.labels x9.props), ()), ())).bind fun (y10, o11, o12, _) =>
  (bif !y10 then
  (q38z n ((Ev.Node.mk o12.1.id o12.1.labels o12.1.props), ())).bind fun (y13, _) =>
  ck (room (o8 ++ ([(Ev.Node.mk y13.id y13.labels y13.props)] : List Ev.Node)).length 56) (rec (v3, (()), o8 ++ ([(Ev.Node.mk y13.id y13.labels y13.props)] : List Ev.Node), ()))
  else rec (v3, (()), o8, ()))

theorem R_q11z_s0 {ρ : Type} (n : Nat) (kx : (List Ev.Node) × Unit → Option ρ) (kr : Unit → Option ρ) (l : List Ev.Node) (fuel : Nat) (v3 : List Ev.Node) (o7 : Unit) (o8 : List Ev.Node) (hl : l.length ≤ 9223372036854775807) (hf : l.length < fuel) :
    iterN (fun rc => q11z_s0 n rc kx kr) fuel (v3, l, (l.length : Int), 0, o7, o8, ()) = foldK (F_q11z_s0 n kr) (fun (v3, o7, o8, _) => kx (o8, ())) 0 l (v3, o7, o8, ()) :=
  range_listM l (fun i (v3, o7, o8, _) => (v3, l, (l.length : Int), i, o7, o8, ())) _ _ _ (fun rec i s => rfl) hl fuel (v3, o7, o8, ()) hf

noncomputable def q11z (n : Nat) : (List Ev.Node) × (List Ev.Node) × Unit → Option ((List Ev.Node) × Unit) :=
  fun (a1, a2, _) =>
  iterN (fun rc15 => q11z_s0 n rc15 (fun (o14, _) => some (o14, ())) (fun (_) => none)) (n) (a2, a1, (a1.length : Int), 0, (()), ([] : List Ev.Node), ())

noncomputable def q40z (n : Nat) : Ev.Edg × Ev.Edg × Unit → Option (Bool × Unit) :=
  fun (a1, a2, _) =>
  (bif ((((a1.id : Int) == a2.id) && ((a1.src : Int) == a2.src)) && ((a1.dst : Int) == a2.dst)) && (seq a1.type a2.type) then
  (q36z n (a1.props, a2.props, ())).bind fun (y3, _) => some (y3, ())
  else some (false, ()))

noncomputable def q16z (n : Nat) : Ev.Edg × Unit × (Ev.Edg × Unit) × Unit → Option (Bool × Unit × (Ev.Edg × Unit) × Unit) :=
  fun (a1, o2, o3, _) =>
  (q40z n ((Ev.Edg.mk o3.1.id o3.1.src o3.1.dst o3.1.type o3.1.props), (Ev.Edg.mk a1.id a1.src a1.dst a1.type a1.props), ())).bind fun (y4, _) => some (y4, (()), ((Ev.Edg.mk o3.1.id o3.1.src o3.1.dst o3.1.type o3.1.props), ()), ())

noncomputable def q7z_s0 {ρ : Type} (n : Nat) (rec : (List Ev.Edg) × Int × Int × Unit × (Ev.Edg × Unit) × Unit → Option ρ) (kx : Unit × (Ev.Edg × Unit) × Unit → Option ρ) (kr : Int × Unit × (Ev.Edg × Unit) × Unit → Option ρ) : (List Ev.Edg) × Int × Int × Unit × (Ev.Edg × Unit) × Unit → Option ρ :=
  fun (v4, v5, v6, o7, o8, _) =>
  (bif decide ((v6 : Int) < v5) then
  (ix v4 v6).bind fun x9 =>
  (q16z n ((Ev.Edg.mk x9.id x9.src x9.dst x9.type x9.props), (()), ((Ev.Edg.mk o8.1.id o8.1.src o8.1.dst o8.1.type o8.1.props), ()), ())).bind fun (y10, o11, o12, _) =>
  (bif y10 then kr (v6, (()), ((Ev.Edg.mk o12.1.id o12.1.src o12.1.dst o12.1.type o12.1.props), ()), ())
  else rec (v4, v5, IntKind.wrap .i64 (v6 + 1), (()), ((Ev.Edg.mk o12.1.id o12.1.src o12.1.dst o12.1.type o12.1.props), ()), ()))
  else kx ((()), ((Ev.Edg.mk o8.1.id o8.1.src o8.1.dst o8.1.type o8.1.props), ()), ()))

noncomputable def F_q7z_s0 {ρ : Type} (n : Nat) (kr : Int × Unit × (Ev.Edg × Unit) × Unit → Option ρ) : Int → Ev.Edg → (Unit × (Ev.Edg × Unit) × Unit) → ((Unit × (Ev.Edg × Unit) × Unit) → Option ρ) → Option ρ :=
  fun v6 x9 (o7, o8, _) rec =>
  (q16z n ((Ev.Edg.mk x9.id x9.src x9.dst x9.type x9.props), (()), ((Ev.Edg.mk o8.1.id o8.1.src o8.1.dst o8.1.type o8.1.props), ()), ())).bind fun (y10, o11, o12, _) =>
  (bif y10 then kr (v6, (()), ((Ev.Edg.mk o12.1.id o12.1.src o12.1.dst o12.1.type o12.1.props), ()), ())
  else rec ((()), ((Ev.Edg.mk o12.1.id o12.1.src o12.1.dst o12.1.type o12.1.props), ()), ()))

theorem R_q7z_s0 {ρ : Type} (n : Nat) (kx : Unit × (Ev.Edg × Unit) × Unit → Option ρ) (kr : Int × Unit × (Ev.Edg × Unit) × Unit → Option ρ) (l : List Ev.Edg) (fuel : Nat) (o7 : Unit) (o8 : Ev.Edg × Unit) (hl : l.length ≤ 9223372036854775807) (hf : l.length < fuel) :
    iterN (fun rc => q7z_s0 n rc kx kr) fuel (l, (l.length : Int), 0, o7, o8, ()) = foldK (F_q7z_s0 n kr) (fun (o7, o8, _) => kx ((()), ((Ev.Edg.mk o8.1.id o8.1.src o8.1.dst o8.1.type o8.1.props), ()), ())) 0 l (o7, o8, ()) :=
  range_listM l (fun i (o7, o8, _) => (l, (l.length : Int), i, o7, o8, ())) _ _ _ (fun rec i s => rfl) hl fuel (o7, o8, ()) hf

noncomputable def q7z (n : Nat) : (List Ev.Edg) × Unit × (Ev.Edg × Unit) × Unit → Option (Int × Unit × (Ev.Edg × Unit) × Unit) :=
  fun (a1, o2, o3, _) =>
  iterN (fun rc18 => q7z_s0 n rc18 (fun (o13, o14, _) => some ((-1), (()), ((Ev.Edg.mk o14.1.id o14.1.src o14.1.dst o14.1.type o14.1.props), ()), ())) (fun (v15, o16, o17, _) => some (v15, (()), ((Ev.Edg.mk o17.1.id o17.1.src o17.1.dst o17.1.type o17.1.props), ()), ()))) (n) (a1, (a1.length : Int), 0, (()), ((Ev.Edg.mk o3.1.id o3.1.src o3.1.dst o3.1.type o3.1.props), ()), ())

noncomputable def q5z (n : Nat) : (List Ev.Edg) × Unit × (Ev.Edg × Unit) × Unit → Option (Bool × Unit × (Ev.Edg × Unit) × Unit) :=
  fun (a1, o2, o3, _) =>
  (q7z n (a1, (()), ((Ev.Edg.mk o3.1.id o3.1.src o3.1.dst o3.1.type o3.1.props), ()), ())).bind fun (y4, o5, o6, _) => some (decide ((y4 : Int) ≥ 0), (()), ((Ev.Edg.mk o6.1.id o6.1.src o6.1.dst o6.1.type o6.1.props), ()), ())

noncomputable def q37z (n : Nat) : Ev.Edg × Unit → Option (Ev.Edg × Unit) :=
  fun (a1, _) =>
  (q35z n (a1.props, ())).bind fun (y2, _) => some ((Ev.Edg.mk a1.id a1.src a1.dst a1.type y2), ())

noncomputable def q10z_s0 {ρ : Type} (n : Nat) (rec : (List Ev.Edg) × (List Ev.Edg) × Int × Int × Unit × (List Ev.Edg) × Unit → Option ρ) (kx : (List Ev.Edg) × Unit → Option ρ) (kr : Unit → Option ρ) : (List Ev.Edg) × (List Ev.Edg) × Int × Int × Unit × (List Ev.Edg) × Unit → Option ρ :=
  fun (v3, v4, v5, v6, o7, o8, _) =>
  (bif decide ((v6 : Int) < v5) then
  (ix v4 v6).bind fun x9 =>
  (q5z n (v3, (()), ((Ev.Edg.mk x9.id x9.src x9.dst x9.type x9.props), ()), ())).bind fun (y10, o11, o12, _) =>
  (bif !y10 then
  (q37z n ((Ev.Edg.mk o12.1.id o12.1.src o12.1.dst o12.1.type o12.1.props), ())).bind fun (y13, _) =>
  ck (room (o8 ++ ([(Ev.Edg.mk y13.id y13.src y13.dst y13.type y13.props)] : List Ev.Edg)).length 64) (rec (v3, v4, v5, IntKind.wrap .i64 (v6 + 1), (()), o8 ++ ([(Ev.Edg.mk y13.id y13.src y13.dst y13.type y13.props)] : List Ev.Edg), ()))
  else rec (v3, v4, v5, IntKind.wrap .i64 (v6 + 1), (()), o8, ()))
  else kx (o8, ()))

noncomputable def F_q10z_s0 {ρ : Type} (n : Nat) (kr : Unit → Option ρ) : Int → Ev.Edg → ((List Ev.Edg) × Unit × (List Ev.Edg) × Unit) → (((List Ev.Edg) × Unit × (List Ev.Edg) × Unit) → Option ρ) → Option ρ :=
  fun v6 x9 (v3, o7, o8, _) rec =>
  (q5z n (v3, (()), ((Ev.Edg.mk x9.id x9.src x9.dst x9.type x9.props), ()), ())).bind fun (y10, o11, o12, _) =>
  (bif !y10 then
  (q37z n ((Ev.Edg.mk o12.1.id o12.1.src o12.1.dst o12.1.type o12.1.props), ())).bind fun (y13, _) =>
  ck (room (o8 ++ ([(Ev.Edg.mk y13.id y13.src y13.dst y13.type y13.props)] : List Ev.Edg)).length 64) (rec (v3, (()), o8 ++ ([(Ev.Edg.mk y13.id y13.src y13.dst y13.type y13.props)] : List Ev.Edg), ()))
  else rec (v3, (()), o8, ()))

theorem R_q10z_s0 {ρ : Type} (n : Nat) (kx : (List Ev.Edg) × Unit → Option ρ) (kr : Unit → Option ρ) (l : List Ev.Edg) (fuel : Nat) (v3 : List Ev.Edg) (o7 : Unit) (o8 : List Ev.Edg) (hl : l.length ≤ 9223372036854775807) (hf : l.length < fuel) :
    iterN (fun rc => q10z_s0 n rc kx kr) fuel (v3, l, (l.length : Int), 0, o7, o8, ()) = foldK (F_q10z_s0 n kr) (fun (v3, o7, o8, _) => kx (o8, ())) 0 l (v3, o7, o8, ()) :=
  range_listM l (fun i (v3, o7, o8, _) => (v3, l, (l.length : Int), i, o7, o8, ())) _ _ _ (fun rec i s => rfl) hl fuel (v3, o7, o8, ()) hf

noncomputable def q10z (n : Nat) : (List Ev.Edg) × (List Ev.Edg) × Unit → Option ((List Ev.Edg) × Unit) :=
  fun (a1, a2, _) =>
  iterN (fun rc15 => q10z_s0 n rc15 (fun (o14, _) => some (o14, ())) (fun (_) => none)) (n) (a2, a1, (a1.length : Int), 0, (()), ([] : List Ev.Edg), ())

noncomputable def q49z_s0 {ρ : Type} (n : Nat) (rec : (Ev.Graph × Ev.Graph) × Int × (Ev.Graph × Unit) × (Ev.Graph × Unit) × (Ev.Delta × Unit) × Unit → Option ρ) (kx : (Ev.Graph × Unit) × (Ev.Graph × Unit) × (Ev.Delta × Unit) × Unit → Option ρ) (kr : Int × (Ev.Delta × Unit) × Unit → Option ρ) : (Ev.Graph × Ev.Graph) × Int × (Ev.Graph × Unit) × (Ev.Graph × Unit) × (Ev.Delta × Unit) × Unit → Option ρ :=
  fun (v3, v4, o5, o6, o7, _) =>
  (bif decide ((v4 : Int) < 2) then
  (ix ([(Ev.Graph.mk v3.1.nodes v3.1.edges v3.1.next), (Ev.Graph.mk v3.2.nodes v3.2.edges v3.2.next)] : List Ev.Graph) v4).bind fun x8 =>
  (q47z n ((Ev.Graph.mk x8.nodes x8.edges x8.next), ())).bind fun (y9, _) =>
  (bif (y9 : Int) != 0 then kr (y9, ((Ev.Delta.mk ([] : List Ev.Node) ([] : List Ev.Node) ([] : List Ev.Edg) ([] : List Ev.Edg) 0 0), ()), ())
  else rec (((Ev.Graph.mk v3.1.nodes v3.1.edges v3.1.next), (Ev.Graph.mk v3.2.nodes v3.2.edges v3.2.next)), IntKind.wrap .i64 (v4 + 1), ((Ev.Graph.mk o5.1.nodes o5.1.edges o5.1.next), ()), ((Ev.Graph.mk o6.1.nodes o6.1.edges o6.1.next), ()), ((Ev.Delta.mk o7.1.gone o7.1.fresh o7.1.goneE o7.1.freshE o7.1.src o7.1.dst), ()), ()))
  else kx (((Ev.Graph.mk o5.1.nodes o5.1.edges o5.1.next), ()), ((Ev.Graph.mk o6.1.nodes o6.1.edges o6.1.next), ()), ((Ev.Delta.mk o7.1.gone o7.1.fresh o7.1.goneE o7.1.freshE o7.1.src o7.1.dst), ()), ()))

noncomputable def q49z (n : Nat) : Ev.Graph × Ev.Graph × Unit → Option (Ev.Delta × Int × Unit) :=
  fun (a1, a2, _) =>
  iterN (fun rc19 => q49z_s0 n rc19 (fun (o10, o11, o12, _) =>
  (q11z n (o10.1.nodes, o11.1.nodes, ())).bind fun (y15, _) =>
  (q11z n (o11.1.nodes, o10.1.nodes, ())).bind fun (y16, _) =>
  (q10z n (o10.1.edges, o11.1.edges, ())).bind fun (y17, _) =>
  (q10z n (o11.1.edges, o10.1.edges, ())).bind fun (y18, _) => some ((Ev.Delta.mk y15 y16 y17 y18 o10.1.next o11.1.next), 0, ())) (fun (v13, o14, _) => some ((Ev.Delta.mk o14.1.gone o14.1.fresh o14.1.goneE o14.1.freshE o14.1.src o14.1.dst), v13, ()))) (n) (((Ev.Graph.mk a1.nodes a1.edges a1.next), (Ev.Graph.mk a2.nodes a2.edges a2.next)), 0, ((Ev.Graph.mk a1.nodes a1.edges a1.next), ()), ((Ev.Graph.mk a2.nodes a2.edges a2.next), ()), ((Ev.Delta.mk ([] : List Ev.Node) ([] : List Ev.Node) ([] : List Ev.Edg) ([] : List Ev.Edg) 0 0), ()), ())

noncomputable def q34z : Int × Unit → Option (Ev.Val × Unit) :=
  fun (a1, _) => some ((Ev.Val.mk 2 a1 (⟨#[]⟩ : ByteArray) ([] : List Ev.Val)), ())

noncomputable def q28z : Unit → Option (Ev.Graph × Unit) :=
  fun (_) =>
  (q34z (5, ())).bind fun (y1, _) => some ((Ev.Graph.mk ([(Ev.Node.mk 1 ([(⟨#[65]⟩ : ByteArray)] : List ByteArray) ([(Ev.Prp.mk (⟨#[110]⟩ : ByteArray) (Ev.Val.mk y1.kind y1.n y1.s y1.l))] : List Ev.Prp)), (Ev.Node.mk 2 ([] : List ByteArray) ([] : List Ev.Prp))] : List Ev.Node) ([(Ev.Edg.mk 3 1 2 (⟨#[75]⟩ : ByteArray) ([] : List Ev.Prp))] : List Ev.Edg) 4), ())

noncomputable def q39z_s0 {ρ : Type} (n : Nat) (rec : (List Ev.Node) × Int × Int × (Ev.Graph × Unit) × (Ev.Graph × Unit) × (Int × Unit) × (List Ev.Node) × Unit → Option ρ) (kx : (Ev.Graph × Unit) × (Ev.Graph × Unit) × (Int × Unit) × (List Ev.Node) × Unit → Option ρ) (kr : Unit → Option ρ) : (List Ev.Node) × Int × Int × (Ev.Graph × Unit) × (Ev.Graph × Unit) × (Int × Unit) × (List Ev.Node) × Unit → Option ρ :=
  fun (v2, v3, v4, o5, o6, o7, o8, _) =>
  (bif decide ((v4 : Int) < v3) then
  (ix v2 v4).bind fun x9 =>
  (q38z n ((Ev.Node.mk x9.id x9.labels x9.props), ())).bind fun (y11, _) =>
  ck (room (o8 ++ ([(Ev.Node.mk y11.id y11.labels y11.props)] : List Ev.Node)).length 56) (rec (v2, v3, IntKind.wrap .i64 (v4 + 1), ((Ev.Graph.mk o5.1.nodes o5.1.edges o5.1.next), ()), ((Ev.Graph.mk o6.1.nodes o6.1.edges o6.1.next), ()), (o7.1, ()), o8 ++ ([(Ev.Node.mk y11.id y11.labels y11.props)] : List Ev.Node), ()))
  else kx (((Ev.Graph.mk o5.1.nodes o5.1.edges o5.1.next), ()), ((Ev.Graph.mk o6.1.nodes o6.1.edges o6.1.next), ()), (o7.1, ()), o8, ()))

noncomputable def q39z_s2 {ρ : Type} (n : Nat) (rec : (List Ev.Edg) × Int × Int × (Ev.Graph × Unit) × (Int × Unit) × (List Ev.Node) × (List Ev.Edg) × Unit → Option ρ) (kx : (Ev.Graph × Unit) × (Int × Unit) × (List Ev.Node) × (List Ev.Edg) × Unit → Option ρ) (kr : Unit → Option ρ) : (List Ev.Edg) × Int × Int × (Ev.Graph × Unit) × (Int × Unit) × (List Ev.Node) × (List Ev.Edg) × Unit → Option ρ :=
  fun (v16, v17, v18, o19, o20, o21, o22, _) =>
  (bif decide ((v18 : Int) < v17) then
  (ix v16 v18).bind fun x23 =>
  (q37z n ((Ev.Edg.mk x23.id x23.src x23.dst x23.type x23.props), ())).bind fun (y25, _) =>
  ck (room (o22 ++ ([(Ev.Edg.mk y25.id y25.src y25.dst y25.type y25.props)] : List Ev.Edg)).length 64) (rec (v16, v17, IntKind.wrap .i64 (v18 + 1), ((Ev.Graph.mk o19.1.nodes o19.1.edges o19.1.next), ()), (o20.1, ()), o21, o22 ++ ([(Ev.Edg.mk y25.id y25.src y25.dst y25.type y25.props)] : List Ev.Edg), ()))
  else kx (((Ev.Graph.mk o19.1.nodes o19.1.edges o19.1.next), ()), (o20.1, ()), o21, o22, ()))

noncomputable def F_q39z_s0 {ρ : Type} (n : Nat) (kr : Unit → Option ρ) : Int → Ev.Node → ((Ev.Graph × Unit) × (Ev.Graph × Unit) × (Int × Unit) × (List Ev.Node) × Unit) → (((Ev.Graph × Unit) × (Ev.Graph × Unit) × (Int × Unit) × (List Ev.Node) × Unit) → Option ρ) → Option ρ :=
  fun v4 x9 (o5, o6, o7, o8, _) rec =>
  (q38z n ((Ev.Node.mk x9.id x9.labels x9.props), ())).bind fun (y11, _) =>
  ck (room (o8 ++ ([(Ev.Node.mk y11.id y11.labels y11.props)] : List Ev.Node)).length 56) (rec (((Ev.Graph.mk o5.1.nodes o5.1.edges o5.1.next), ()), ((Ev.Graph.mk o6.1.nodes o6.1.edges o6.1.next), ()), (o7.1, ()), o8 ++ ([(Ev.Node.mk y11.id y11.labels y11.props)] : List Ev.Node), ()))

theorem R_q39z_s0 {ρ : Type} (n : Nat) (kx : (Ev.Graph × Unit) × (Ev.Graph × Unit) × (Int × Unit) × (List Ev.Node) × Unit → Option ρ) (kr : Unit → Option ρ) (l : List Ev.Node) (fuel : Nat) (o5 : Ev.Graph × Unit) (o6 : Ev.Graph × Unit) (o7 : Int × Unit) (o8 : List Ev.Node) (hl : l.length ≤ 9223372036854775807) (hf : l.length < fuel) :
    iterN (fun rc => q39z_s0 n rc kx kr) fuel (l, (l.length : Int), 0, o5, o6, o7, o8, ()) = foldK (F_q39z_s0 n kr) (fun (o5, o6, o7, o8, _) => kx (((Ev.Graph.mk o5.1.nodes o5.1.edges o5.1.next), ()), ((Ev.Graph.mk o6.1.nodes o6.1.edges o6.1.next), ()), (o7.1, ()), o8, ())) 0 l (o5, o6, o7, o8, ()) :=
  range_listM l (fun i (o5, o6, o7, o8, _) => (l, (l.length : Int), i, o5, o6, o7, o8, ())) _ _ _ (fun rec i s => rfl) hl fuel (o5, o6, o7, o8, ()) hf

noncomputable def F_q39z_s2 {ρ : Type} (n : Nat) (kr : Unit → Option ρ) : Int → Ev.Edg → ((Ev.Graph × Unit) × (Int × Unit) × (List Ev.Node) × (List Ev.Edg) × Unit) → (((Ev.Graph × Unit) × (Int × Unit) × (List Ev.Node) × (List Ev.Edg) × Unit) → Option ρ) → Option ρ :=
  fun v18 x23 (o19, o20, o21, o22, _) rec =>
  (q37z n ((Ev.Edg.mk x23.id x23.src x23.dst x23.type x23.props), ())).bind fun (y25, _) =>
  ck (room (o22 ++ ([(Ev.Edg.mk y25.id y25.src y25.dst y25.type y25.props)] : List Ev.Edg)).length 64) (rec (((Ev.Graph.mk o19.1.nodes o19.1.edges o19.1.next), ()), (o20.1, ()), o21, o22 ++ ([(Ev.Edg.mk y25.id y25.src y25.dst y25.type y25.props)] : List Ev.Edg), ()))

theorem R_q39z_s2 {ρ : Type} (n : Nat) (kx : (Ev.Graph × Unit) × (Int × Unit) × (List Ev.Node) × (List Ev.Edg) × Unit → Option ρ) (kr : Unit → Option ρ) (l : List Ev.Edg) (fuel : Nat) (o19 : Ev.Graph × Unit) (o20 : Int × Unit) (o21 : List Ev.Node) (o22 : List Ev.Edg) (hl : l.length ≤ 9223372036854775807) (hf : l.length < fuel) :
    iterN (fun rc => q39z_s2 n rc kx kr) fuel (l, (l.length : Int), 0, o19, o20, o21, o22, ()) = foldK (F_q39z_s2 n kr) (fun (o19, o20, o21, o22, _) => kx (((Ev.Graph.mk o19.1.nodes o19.1.edges o19.1.next), ()), (o20.1, ()), o21, o22, ())) 0 l (o19, o20, o21, o22, ()) :=
  range_listM l (fun i (o19, o20, o21, o22, _) => (l, (l.length : Int), i, o19, o20, o21, o22, ())) _ _ _ (fun rec i s => rfl) hl fuel (o19, o20, o21, o22, ()) hf

noncomputable def q39z (n : Nat) : Ev.Graph × Unit → Option ((Int × Unit) × (List Ev.Node) × (List Ev.Edg) × Unit) :=
  fun (a1, _) =>
  iterN (fun rc31 => q39z_s0 n rc31 (fun (o12, o13, o14, o15, _) =>
  iterN (fun rc30 => q39z_s2 n rc30 (fun (o26, o27, o28, o29, _) => some ((o27.1, ()), o28, o29, ())) (fun (_) => none)) (n) (o12.1.edges, (o12.1.edges.length : Int), 0, ((Ev.Graph.mk o13.1.nodes o13.1.edges o13.1.next), ()), (o14.1, ()), o15, ([] : List Ev.Edg), ())) (fun (_) => none)) (n) (a1.nodes, (a1.nodes.length : Int), 0, ((Ev.Graph.mk a1.nodes a1.edges a1.next), ()), ((Ev.Graph.mk ([] : List Ev.Node) ([] : List Ev.Edg) 0), ()), (a1.next, ()), ([] : List Ev.Node), ())

noncomputable def q42z : Int × ((Ev.Graph × (List Int) × Unit) × Unit) × Unit → Option (Int × Unit) :=
  fun (a1, a2, _) =>
  (bif (decide ((a1 : Int) < 0)) && (decide ((a1 : Int) ≥ (IntKind.wrap .i64 (0 - (a2.1.2.1.length : Int))))) then
  (ix a2.1.2.1 (IntKind.wrap .i64 ((IntKind.wrap .i64 (0 - a1)) - 1))).bind fun x3 => some (x3, ())
  else some (a1, ()))

noncomputable def q30z : (Int × Unit) × (List Ev.Node) × (List Ev.Edg) × (List Int) × Unit → Option (Int × Int × (Int × Unit) × (List Ev.Node) × (List Ev.Edg) × (List Int) × Unit) :=
  fun (o1, o2, o3, o4, _) =>
  (bif decide ((o1.1 : Int) ≥ 1099511627776) then some (0, 10, (o1.1, ()), o2, o3, o4, ())
  else
  ck (room (o4 ++ ([o1.1] : List Int)).length 8) (some (o1.1, 0, (IntKind.wrap .i64 (o1.1 + 1), ()), o2, o3, o4 ++ ([o1.1] : List Int), ())))

noncomputable def q50z (n : Nat) : Ev.Opn × (Int × Unit) × (List Ev.Node) × (List Ev.Edg) × (List Int) × Unit → Option (Int × (Int × Unit) × (List Ev.Node) × (List Ev.Edg) × (List Int) × Unit) :=
  fun (a1, o2, o3, o4, o5, _) =>
  (q42z (a1.src, (((Ev.Graph.mk o3 o4 o2.1), o5, ()), ()), ())).bind fun (y6, _) =>
  (q42z (a1.dst, (((Ev.Graph.mk o3 o4 o2.1), o5, ()), ()), ())).bind fun (y7, _) =>
  (q56z n ((Ev.Graph.mk o3 o4 o2.1), y6, ())).bind fun (y8, _) =>
  (bif decide ((y8 : Int) < 0) then some (5, (o2.1, ()), o3, o4, o5, ())
  else
  (q56z n ((Ev.Graph.mk o3 o4 o2.1), y7, ())).bind fun (y9, _) =>
  (bif decide ((y9 : Int) < 0) then some (5, (o2.1, ()), o3, o4, o5, ())
  else
  (q57z n (a1.name, ())).bind fun (y10, _) =>
  (bif !y10 then some (6, (o2.1, ()), o3, o4, o5, ())
  else
  (q48z n (a1.props, ())).bind fun (y11, _) =>
  (bif (y11 : Int) != 0 then some (y11, (o2.1, ()), o3, o4, o5, ())
  else
  (bif ((o4.length : Int) : Int) == 60 then some (10, (o2.1, ()), o3, o4, o5, ())
  else
  (q30z ((o2.1, ()), o3, o4, o5, ())).bind fun (y12, y13, o14, o15, o16, o17, _) =>
  (q37z n ((Ev.Edg.mk y12 y6 y7 a1.name a1.props), ())).bind fun (y19, _) =>
  ck (room (o16 ++ ([(Ev.Edg.mk y19.id y19.src y19.dst y19.type y19.props)] : List Ev.Edg)).length 64) (some (y13, (o14.1, ()), o15, o16 ++ ([(Ev.Edg.mk y19.id y19.src y19.dst y19.type y19.props)] : List Ev.Edg), o17, ())))))))

noncomputable def q51z (n : Nat) : Ev.Opn × (Int × Unit) × (List Ev.Node) × (List Ev.Edg) × (List Int) × Unit → Option (Int × (Int × Unit) × (List Ev.Node) × (List Ev.Edg) × (List Int) × Unit) :=
  fun (a1, o2, o3, o4, o5, _) =>
  (q46z n (a1.labels, ())).bind fun (y6, _) =>
  (bif (y6 : Int) != 0 then some (y6, (o2.1, ()), o3, o4, o5, ())
  else
  (q48z n (a1.props, ())).bind fun (y7, _) =>
  (bif (y7 : Int) != 0 then some (y7, (o2.1, ()), o3, o4, o5, ())
  else
  (bif ((o3.length : Int) : Int) == 40 then some (10, (o2.1, ()), o3, o4, o5, ())
  else
  (q30z ((o2.1, ()), o3, o4, o5, ())).bind fun (y8, y9, o10, o11, o12, o13, _) =>
  (q38z n ((Ev.Node.mk y8 a1.labels a1.props), ())).bind fun (y15, _) =>
  ck (room (o11 ++ ([(Ev.Node.mk y15.id y15.labels y15.props)] : List Ev.Node)).length 56) (some (y9, (o10.1, ()), o11 ++ ([(Ev.Node.mk y15.id y15.labels y15.props)] : List Ev.Node), o12, o13, ())))))

noncomputable def txn_Apply_s0 {ρ : Type} (n : Nat) (rec : (List Ev.Opn) × Int × Int × (Ev.Graph × Unit) × Unit × (List Ev.Node) × (Int × Unit) × (List Ev.Edg) × (List Int) × Unit → Option ρ) (kx : (Ev.Graph × Unit) × (List Ev.Node) × (Int × Unit) × (List Ev.Edg) × (List Int) × Unit → Option ρ) (kr : (List Int) × Int × Int × (Ev.Graph × Unit) × Unit → Option ρ) : (List Ev.Opn) × Int × Int × (Ev.Graph × Unit) × Unit × (List Ev.Node) × (Int × Unit) × (List Ev.Edg) × (List Int) × Unit → Option ρ :=
  fun (v7, v8, v9, o10, o11, o12, o13, o14, o15, _) =>
  (bif decide ((v9 : Int) < v8) then
  (ix v7 v9).bind fun x16 =>
  (bif (decide ((x16.kind : Int) > 0)) && (decide ((x16.kind : Int) < 8)) then
  (bif x16.kind == (1 : Int) then
  (q51z n ((Ev.Opn.mk 1 x16.id x16.src x16.dst x16.name (Ev.Val.mk x16.val.kind x16.val.n x16.val.s x16.val.l) x16.labels x16.props), (o13.1, ()), o12, o14, o15, ())).bind fun (y22, o23, o24, o25, o26, _) =>
  (bif (y22 : Int) != 0 then kr (([] : List Int), v9, y22, ((Ev.Graph.mk ([] : List Ev.Node) ([] : List Ev.Edg) 0), ()), ())
  else rec (v7, v8, IntKind.wrap .i64 (v9 + 1), ((Ev.Graph.mk o10.1.nodes o10.1.edges o10.1.next), ()), (()), o24, (o23.1, ()), o25, o26, ()))
  else
  (bif x16.kind == (2 : Int) then
  (q50z n ((Ev.Opn.mk 2 x16.id x16.src x16.dst x16.name (Ev.Val.mk x16.val.kind x16.val.n x16.val.s x16.val.l) x16.labels x16.props), (o13.1, ()), o12, o14, o15, ())).bind fun (y17, o18, o19, o20, o21, _) =>
  (bif (y17 : Int) != 0 then kr (([] : List Int), v9, y17, ((Ev.Graph.mk ([] : List Ev.Node) ([] : List Ev.Edg) 0), ()), ())
  else rec (v7, v8, IntKind.wrap .i64 (v9 + 1), ((Ev.Graph.mk o10.1.nodes o10.1.edges o10.1.next), ()), (()), o19, (o18.1, ()), o20, o21, ()))
  else none))
  else kr (([] : List Int), v9, 9, ((Ev.Graph.mk ([] : List Ev.Node) ([] : List Ev.Edg) 0), ()), ()))
  else kx (((Ev.Graph.mk o10.1.nodes o10.1.edges o10.1.next), ()), o12, (o13.1, ()), o14, o15, ()))

noncomputable def F_txn_Apply_s0 {ρ : Type} (n : Nat) (kr : (List Int) × Int × Int × (Ev.Graph × Unit) × Unit → Option ρ) : Int → Ev.Opn → ((Ev.Graph × Unit) × Unit × (List Ev.Node) × (Int × Unit) × (List Ev.Edg) × (List Int) × Unit) → (((Ev.Graph × Unit) × Unit × (List Ev.Node) × (Int × Unit) × (List Ev.Edg) × (List Int) × Unit) → Option ρ) → Option ρ :=
  fun v9 x16 (o10, o11, o12, o13, o14, o15, _) rec =>
  (bif (decide ((x16.kind : Int) > 0)) && (decide ((x16.kind : Int) < 8)) then
  (bif x16.kind == (1 : Int) then
  (q51z n ((Ev.Opn.mk 1 x16.id x16.src x16.dst x16.name (Ev.Val.mk x16.val.kind x16.val.n x16.val.s x16.val.l) x16.labels x16.props), (o13.1, ()), o12, o14, o15, ())).bind fun (y22, o23, o24, o25, o26, _) =>
  (bif (y22 : Int) != 0 then kr (([] : List Int), v9, y22, ((Ev.Graph.mk ([] : List Ev.Node) ([] : List Ev.Edg) 0), ()), ())
  else rec (((Ev.Graph.mk o10.1.nodes o10.1.edges o10.1.next), ()), (()), o24, (o23.1, ()), o25, o26, ()))
  else
  (bif x16.kind == (2 : Int) then
  (q50z n ((Ev.Opn.mk 2 x16.id x16.src x16.dst x16.name (Ev.Val.mk x16.val.kind x16.val.n x16.val.s x16.val.l) x16.labels x16.props), (o13.1, ()), o12, o14, o15, ())).bind fun (y17, o18, o19, o20, o21, _) =>
  (bif (y17 : Int) != 0 then kr (([] : List Int), v9, y17, ((Ev.Graph.mk ([] : List Ev.Node) ([] : List Ev.Edg) 0), ()), ())
  else rec (((Ev.Graph.mk o10.1.nodes o10.1.edges o10.1.next), ()), (()), o19, (o18.1, ()), o20, o21, ()))
  else none))
  else kr (([] : List Int), v9, 9, ((Ev.Graph.mk ([] : List Ev.Node) ([] : List Ev.Edg) 0), ()), ()))

theorem R_txn_Apply_s0 {ρ : Type} (n : Nat) (kx : (Ev.Graph × Unit) × (List Ev.Node) × (Int × Unit) × (List Ev.Edg) × (List Int) × Unit → Option ρ) (kr : (List Int) × Int × Int × (Ev.Graph × Unit) × Unit → Option ρ) (l : List Ev.Opn) (fuel : Nat) (o10 : Ev.Graph × Unit) (o11 : Unit) (o12 : List Ev.Node) (o13 : Int × Unit) (o14 : List Ev.Edg) (o15 : List Int) (hl : l.length ≤ 9223372036854775807) (hf : l.length < fuel) :
    iterN (fun rc => txn_Apply_s0 n rc kx kr) fuel (l, (l.length : Int), 0, o10, o11, o12, o13, o14, o15, ()) = foldK (F_txn_Apply_s0 n kr) (fun (o10, o11, o12, o13, o14, o15, _) => kx (((Ev.Graph.mk o10.1.nodes o10.1.edges o10.1.next), ()), o12, (o13.1, ()), o14, o15, ())) 0 l (o10, o11, o12, o13, o14, o15, ()) :=
  range_listM l (fun i (o10, o11, o12, o13, o14, o15, _) => (l, (l.length : Int), i, o10, o11, o12, o13, o14, o15, ())) _ _ _ (fun rec i s => rfl) hl fuel (o10, o11, o12, o13, o14, o15, ()) hf

noncomputable def txn_Apply (n : Nat) : Ev.Graph × (List Ev.Opn) × Unit → Option (Ev.Graph × (List Int) × Int × Int × Unit) :=
  fun (a1, a2, _) =>
  (q47z n ((Ev.Graph.mk a1.nodes a1.edges a1.next), ())).bind fun (y3, _) =>
  (bif (y3 : Int) != 0 then some ((Ev.Graph.mk ([] : List Ev.Node) ([] : List Ev.Edg) 0), ([] : List Int), 0, y3, ())
  else
  (bif decide (((a2.length : Int) : Int) > 20) then some ((Ev.Graph.mk ([] : List Ev.Node) ([] : List Ev.Edg) 0), ([] : List Int), 0, 2, ())
  else
  (q39z n ((Ev.Graph.mk a1.nodes a1.edges a1.next), ())).bind fun (y4, o5, o6, _) =>
  iterN (fun rc36 => txn_Apply_s0 n rc36 (fun (o27, o28, o29, o30, o31, _) => some ((Ev.Graph.mk o28 o30 o29.1), o31, 0, 0, ())) (fun (v32, v33, v34, o35, _) => some ((Ev.Graph.mk o35.1.nodes o35.1.edges o35.1.next), v32, v33, v34, ()))) (n) (a2, (a2.length : Int), 0, ((Ev.Graph.mk ([] : List Ev.Node) ([] : List Ev.Edg) 0), ()), (()), o5, (y4.1, ()), o6, ([] : List Int), ())))

noncomputable def q24z_s0 {ρ : Type} (n : Nat) (rec : (List Int) × (List Int) × Int × Int × Unit → Option ρ) (kx : Unit → Option ρ) (kr : Bool × Unit → Option ρ) : (List Int) × (List Int) × Int × Int × Unit → Option ρ :=
  fun (v3, v4, v5, v6, _) =>
  (bif decide ((v6 : Int) < v5) then
  (ix v3 v6).bind fun x9 =>
  (ix v4 v6).bind fun x10 =>
  (bif (x9 : Int) != x10 then kr (false, ())
  else rec (v3, v4, v5, IntKind.wrap .i64 (v6 + 1), ()))
  else kx (()))

noncomputable def F_q24z_s0 {ρ : Type} (n : Nat) (kr : Bool × Unit → Option ρ) : Int → Int → ((List Int) × Unit) → (((List Int) × Unit) → Option ρ) → Option ρ :=
  fun v6 x9 (v4, _) rec =>
  (ix v4 v6).bind fun x10 =>
  (bif (x9 : Int) != x10 then kr (false, ())
  else rec (v4, ()))

theorem R_q24z_s0 {ρ : Type} (n : Nat) (kx : Unit → Option ρ) (kr : Bool × Unit → Option ρ) (l : List Int) (fuel : Nat) (v4 : List Int) (hl : l.length ≤ 9223372036854775807) (hf : l.length < fuel) :
    iterN (fun rc => q24z_s0 n rc kx kr) fuel (l, v4, (l.length : Int), 0, ()) = foldK (F_q24z_s0 n kr) (fun (v4, _) => kx (())) 0 l (v4, ()) :=
  range_listM l (fun i (v4, _) => (l, v4, (l.length : Int), i, ())) _ _ _ (fun rec i s => rfl) hl fuel (v4, ()) hf

noncomputable def q24z (n : Nat) : (List Int) × (List Int) × Unit → Option (Bool × Unit) :=
  fun (a1, a2, _) =>
  (bif ((a1.length : Int) : Int) != (a2.length : Int) then some (false, ())
  else
  iterN (fun rc12 => q24z_s0 n rc12 (fun (_) => some (true, ())) (fun (v11, _) => some (v11, ()))) (n) (a1, a2, (a1.length : Int), 0, ()))

noncomputable def q25z (n : Nat) : Unit → Option (Bool × Unit) :=
  fun (_) =>
  (q28z (())).bind fun (y1, _) =>
  (txn_Apply n ((Ev.Graph.mk y1.nodes y1.edges y1.next), ([(Ev.Opn.mk 1 0 0 0 (⟨#[]⟩ : ByteArray) (Ev.Val.mk 0 0 (⟨#[]⟩ : ByteArray) ([] : List Ev.Val)) ([(⟨#[66]⟩ : ByteArray)] : List ByteArray) ([] : List Ev.Prp)), (Ev.Opn.mk 2 0 1 (-1) (⟨#[75]⟩ : ByteArray) (Ev.Val.mk 0 0 (⟨#[]⟩ : ByteArray) ([] : List Ev.Val)) ([] : List ByteArray) ([] : List Ev.Prp))] : List Ev.Opn), ())).bind fun (y2, y3, y4, y5, _) =>
  (bif ((y5 : Int) == 0) && ((y4 : Int) == 0) then
  (q24z n (y3, ([4, 5] : List Int), ())).bind fun (y6, _) =>
  (bif (y6 && ((y2.next : Int) == 6)) && (((y2.edges.length : Int) : Int) == 2) then
  (ix y2.edges 1).bind fun x7 => some ((x7.dst : Int) == 4, ())
  else some (false, ()))
  else some (false, ()))

noncomputable def q43z : (List Int) × (List Int) × Unit → Option (Int × Unit) :=
  fun (a1, a2, _) =>
  (cmpN (a1, a2, ())).bind fun (y3, _) => some (y3, ())

noncomputable def q26z_s1 {ρ : Type} (self_q26z : Ev.Val × Ev.Val × Unit → Option (Int × Unit)) (n : Nat) (rec : Int × (Ev.Val × Unit) × (Ev.Val × Unit) × Unit → Option ρ) (kx : (Ev.Val × Unit) × (Ev.Val × Unit) × Unit → Option ρ) (kr : Int × Unit → Option ρ) : Int × (Ev.Val × Unit) × (Ev.Val × Unit) × Unit → Option ρ :=
  fun (v4, o5, o6, _) =>
  (bif (decide ((v4 : Int) < (o5.1.l.length : Int))) && (decide ((v4 : Int) < (o6.1.l.length : Int))) then
  (ix o5.1.l v4).bind fun x9 =>
  (ix o6.1.l v4).bind fun x10 =>
  (self_q26z ((Ev.Val.mk x9.kind x9.n x9.s x9.l), (Ev.Val.mk x10.kind x10.n x10.s x10.l), ())).bind fun (y11, _) =>
  (bif (y11 : Int) != 0 then kr (y11, ())
  else rec (IntKind.wrap .i64 (v4 + 1), ((Ev.Val.mk o5.1.kind o5.1.n o5.1.s o5.1.l), ()), ((Ev.Val.mk o6.1.kind o6.1.n o6.1.s o6.1.l), ()), ()))
  else kx (((Ev.Val.mk o5.1.kind o5.1.n o5.1.s o5.1.l), ()), ((Ev.Val.mk o6.1.kind o6.1.n o6.1.s o6.1.l), ()), ()))

noncomputable def q26z_b (self_q26z : Ev.Val × Ev.Val × Unit → Option (Int × Unit)) (n : Nat) : Ev.Val × Ev.Val × Unit → Option (Int × Unit) :=
  fun (a1, a2, _) =>
  (bif decide ((a1.kind : Int) < a2.kind) then some ((-1), ())
  else
  (bif decide ((a1.kind : Int) > a2.kind) then some (1, ())
  else
  (bif decide ((a1.n : Int) < a2.n) then some ((-1), ())
  else
  (bif decide ((a1.n : Int) > a2.n) then some (1, ())
  else
  (bif !(seq a1.s a2.s) then
  (q43z (bytesI a1.s, bytesI a2.s, ())).bind fun (y3, _) => some (y3, ())
  else
  iterN (fun rc15 => q26z_s1 self_q26z n rc15 (fun (o12, o13, _) =>
  (bif decide (((o12.1.l.length : Int) : Int) < (o13.1.l.length : Int)) then some ((-1), ())
  else
  (bif decide (((o12.1.l.length : Int) : Int) > (o13.1.l.length : Int)) then some (1, ())
  else some (0, ())))) (fun (v14, _) => some (v14, ()))) (n) (0, ((Ev.Val.mk a1.kind a1.n a1.s a1.l), ()), ((Ev.Val.mk a2.kind a2.n a2.s a2.l), ()), ()))))))

noncomputable def q26z : Nat → Ev.Val × Ev.Val × Unit → Option (Int × Unit)
  | 0, _ => none
  | n + 1, x => q26z_b (q26z n) n x

noncomputable def q21z (n : Nat) : Ev.Val × Ev.Val × Unit → Option (Bool × Unit) :=
  fun (a1, a2, _) =>
  (q26z n ((Ev.Val.mk a1.kind a1.n a1.s a1.l), (Ev.Val.mk a2.kind a2.n a2.s a2.l), ())).bind fun (y3, _) => some ((y3 : Int) == 0, ())

noncomputable def q14z (n : Nat) : Ev.Prp × Ev.Prp × Unit → Option (Bool × Unit) :=
  fun (a1, a2, _) =>
  (bif seq a1.name a2.name then
  (q21z n ((Ev.Val.mk a1.val.kind a1.val.n a1.val.s a1.val.l), (Ev.Val.mk a2.val.kind a2.val.n a2.val.s a2.val.l), ())).bind fun (y3, _) => some (y3, ())
  else some (false, ()))

noncomputable def q0z_s0 {ρ : Type} (n : Nat) (rec : (List Ev.Prp) × (List Ev.Prp) × Int × Int × Unit → Option ρ) (kx : Unit → Option ρ) (kr : Bool × Unit → Option ρ) : (List Ev.Prp) × (List Ev.Prp) × Int × Int × Unit → Option ρ :=
  fun (v3, v4, v5, v6, _) =>
  (bif decide ((v6 : Int) < v5) then
  (ix v4 v6).bind fun x7 =>
  (ix v3 v6).bind fun x8 =>
  (q14z n ((Ev.Prp.mk x7.name (Ev.Val.mk x7.val.kind x7.val.n x7.val.s x7.val.l)), (Ev.Prp.mk x8.name (Ev.Val.mk x8.val.kind x8.val.n x8.val.s x8.val.l)), ())).bind fun (y9, _) =>
  (bif !y9 then kr (false, ())
  else rec (v3, v4, v5, IntKind.wrap .i64 (v6 + 1), ()))
  else kx (()))

noncomputable def F_q0z_s0 {ρ : Type} (n : Nat) (kr : Bool × Unit → Option ρ) : Int → Ev.Prp → ((List Ev.Prp) × Unit) → (((List Ev.Prp) × Unit) → Option ρ) → Option ρ :=
  fun v6 x7 (v3, _) rec =>
  (ix v3 v6).bind fun x8 =>
  (q14z n ((Ev.Prp.mk x7.name (Ev.Val.mk x7.val.kind x7.val.n x7.val.s x7.val.l)), (Ev.Prp.mk x8.name (Ev.Val.mk x8.val.kind x8.val.n x8.val.s x8.val.l)), ())).bind fun (y9, _) =>
  (bif !y9 then kr (false, ())
  else rec (v3, ()))

theorem R_q0z_s0 {ρ : Type} (n : Nat) (kx : Unit → Option ρ) (kr : Bool × Unit → Option ρ) (l : List Ev.Prp) (fuel : Nat) (v3 : List Ev.Prp) (hl : l.length ≤ 9223372036854775807) (hf : l.length < fuel) :
    iterN (fun rc => q0z_s0 n rc kx kr) fuel (v3, l, (l.length : Int), 0, ()) = foldK (F_q0z_s0 n kr) (fun (v3, _) => kx (())) 0 l (v3, ()) :=
  range_listM l (fun i (v3, _) => (v3, l, (l.length : Int), i, ())) _ _ _ (fun rec i s => rfl) hl fuel (v3, ()) hf

noncomputable def q0z (n : Nat) : (List Ev.Prp) × (List Ev.Prp) × Unit → Option (Bool × Unit) :=
  fun (a1, a2, _) =>
  (bif ((a1.length : Int) : Int) != (a2.length : Int) then some (false, ())
  else
  iterN (fun rc11 => q0z_s0 n rc11 (fun (_) => some (true, ())) (fun (v10, _) => some (v10, ()))) (n) (a2, a1, (a1.length : Int), 0, ()))

noncomputable def q20z (n : Nat) : (List Ev.Prp) × (List Ev.Prp) × Unit → Option (Bool × Unit) :=
  fun (a1, a2, _) =>
  (q0z n (a1, a2, ())).bind fun (y3, _) => some (y3, ())

noncomputable def q23z (n : Nat) : Ev.Node × Ev.Node × Unit → Option (Bool × Unit) :=
  fun (a1, a2, _) =>
  (bif (a1.id : Int) == a2.id then
  (q13z n (a1.labels, a2.labels, ())).bind fun (y3, _) =>
  (bif y3 then
  (q20z n (a1.props, a2.props, ())).bind fun (y4, _) => some (y4, ())
  else some (false, ()))
  else some (false, ()))

noncomputable def q2z_s0 {ρ : Type} (n : Nat) (rec : (List Ev.Node) × (List Ev.Node) × Int × Int × Unit → Option ρ) (kx : Unit → Option ρ) (kr : Bool × Unit → Option ρ) : (List Ev.Node) × (List Ev.Node) × Int × Int × Unit → Option ρ :=
  fun (v3, v4, v5, v6, _) =>
  (bif decide ((v6 : Int) < v5) then
  (ix v4 v6).bind fun x7 =>
  (ix v3 v6).bind fun x8 =>
  (q23z n ((Ev.Node.mk x7.id x7.labels x7.props), (Ev.Node.mk x8.id x8.labels x8.props), ())).bind fun (y9, _) =>
  (bif !y9 then kr (false, ())
  else rec (v3, v4, v5, IntKind.wrap .i64 (v6 + 1), ()))
  else kx (()))

noncomputable def F_q2z_s0 {ρ : Type} (n : Nat) (kr : Bool × Unit → Option ρ) : Int → Ev.Node → ((List Ev.Node) × Unit) → (((List Ev.Node) × Unit) → Option ρ) → Option ρ :=
  fun v6 x7 (v3, _) rec =>
  (ix v3 v6).bind fun x8 =>
  (q23z n ((Ev.Node.mk x7.id x7.labels x7.props), (Ev.Node.mk x8.id x8.labels x8.props), ())).bind fun (y9, _) =>
  (bif !y9 then kr (false, ())
  else rec (v3, ()))

theorem R_q2z_s0 {ρ : Type} (n : Nat) (kx : Unit → Option ρ) (kr : Bool × Unit → Option ρ) (l : List Ev.Node) (fuel : Nat) (v3 : List Ev.Node) (hl : l.length ≤ 9223372036854775807) (hf : l.length < fuel) :
    iterN (fun rc => q2z_s0 n rc kx kr) fuel (v3, l, (l.length : Int), 0, ()) = foldK (F_q2z_s0 n kr) (fun (v3, _) => kx (())) 0 l (v3, ()) :=
  range_listM l (fun i (v3, _) => (v3, l, (l.length : Int), i, ())) _ _ _ (fun rec i s => rfl) hl fuel (v3, ()) hf

noncomputable def q2z (n : Nat) : (List Ev.Node) × (List Ev.Node) × Unit → Option (Bool × Unit) :=
  fun (a1, a2, _) =>
  (bif ((a1.length : Int) : Int) != (a2.length : Int) then some (false, ())
  else
  iterN (fun rc11 => q2z_s0 n rc11 (fun (_) => some (true, ())) (fun (v10, _) => some (v10, ()))) (n) (a2, a1, (a1.length : Int), 0, ()))

noncomputable def q22z (n : Nat) : Ev.Edg × Ev.Edg × Unit → Option (Bool × Unit) :=
  fun (a1, a2, _) =>
  (bif ((((a1.id : Int) == a2.id) && ((a1.src : Int) == a2.src)) && ((a1.dst : Int) == a2.dst)) && (seq a1.type a2.type) then
  (q20z n (a1.props, a2.props, ())).bind fun (y3, _) => some (y3, ())
  else some (false, ()))

noncomputable def q1z_s0 {ρ : Type} (n : Nat) (rec : (List Ev.Edg) × (List Ev.Edg) × Int × Int × Unit → Option ρ) (kx : Unit → Option ρ) (kr : Bool × Unit → Option ρ) : (List Ev.Edg) × (List Ev.Edg) × Int × Int × Unit → Option ρ :=
  fun (v3, v4, v5, v6, _) =>
  (bif decide ((v6 : Int) < v5) then
  (ix v4 v6).bind fun x7 =>
  (ix v3 v6).bind fun x8 =>
  (q22z n ((Ev.Edg.mk x7.id x7.src x7.dst x7.type x7.props), (Ev.Edg.mk x8.id x8.src x8.dst x8.type x8.props), ())).bind fun (y9, _) =>
  (bif !y9 then kr (false, ())
  else rec (v3, v4, v5, IntKind.wrap .i64 (v6 + 1), ()))
  else kx (()))

noncomputable def F_q1z_s0 {ρ : Type} (n : Nat) (kr : Bool × Unit → Option ρ) : Int → Ev.Edg → ((List Ev.Edg) × Unit) → (((List Ev.Edg) × Unit) → Option ρ) → Option ρ :=
  fun v6 x7 (v3, _) rec =>
  (ix v3 v6).bind fun x8 =>
  (q22z n ((Ev.Edg.mk x7.id x7.src x7.dst x7.type x7.props), (Ev.Edg.mk x8.id x8.src x8.dst x8.type x8.props), ())).bind fun (y9, _) =>
  (bif !y9 then kr (false, ())
  else rec (v3, ()))

theorem R_q1z_s0 {ρ : Type} (n : Nat) (kx : Unit → Option ρ) (kr : Bool × Unit → Option ρ) (l : List Ev.Edg) (fuel : Nat) (v3 : List Ev.Edg) (hl : l.length ≤ 9223372036854775807) (hf : l.length < fuel) :
    iterN (fun rc => q1z_s0 n rc kx kr) fuel (v3, l, (l.length : Int), 0, ()) = foldK (F_q1z_s0 n kr) (fun (v3, _) => kx (())) 0 l (v3, ()) :=
  range_listM l (fun i (v3, _) => (v3, l, (l.length : Int), i, ())) _ _ _ (fun rec i s => rfl) hl fuel (v3, ()) hf

noncomputable def q1z (n : Nat) : (List Ev.Edg) × (List Ev.Edg) × Unit → Option (Bool × Unit) :=
  fun (a1, a2, _) =>
  (bif ((a1.length : Int) : Int) != (a2.length : Int) then some (false, ())
  else
  iterN (fun rc11 => q1z_s0 n rc11 (fun (_) => some (true, ())) (fun (v10, _) => some (v10, ()))) (n) (a2, a1, (a1.length : Int), 0, ()))

noncomputable def q19z (n : Nat) : Ev.Graph × Ev.Graph × Unit → Option (Bool × Unit) :=
  fun (a1, a2, _) =>
  (bif (a1.next : Int) == a2.next then
  (q2z n (a1.nodes, a2.nodes, ())).bind fun (y3, _) =>
  (bif y3 then
  (q1z n (a1.edges, a2.edges, ())).bind fun (y4, _) => some (y4, ())
  else some (false, ()))
  else some (false, ()))

noncomputable def txn_Back_s2 {ρ : Type} (n : Nat) (rec : Int × (List Ev.Node) × Int × Int × ((List Ev.Node) × (List Ev.Node) × Unit) × (Ev.Delta × Unit) × (Ev.Delta × Unit) × (Int × Int × Unit) × ((List Ev.Node) × Unit) × (List Ev.Node) × Unit → Option ρ) (kx : Int × ((List Ev.Node) × (List Ev.Node) × Unit) × (Ev.Delta × Unit) × (Ev.Delta × Unit) × (Int × Int × Unit) × (List Ev.Node) × Unit → Option ρ) (kr : Unit → Option ρ) : Int × (List Ev.Node) × Int × Int × ((List Ev.Node) × (List Ev.Node) × Unit) × (Ev.Delta × Unit) × (Ev.Delta × Unit) × (Int × Int × Unit) × ((List Ev.Node) × Unit) × (List Ev.Node) × Unit → Option ρ :=
  fun (v2, v3, v4, v5, v6, o7, o8, o9, o10, o11, _) =>
  (bif decide ((v5 : Int) < v4) then
  (ix v3 v5).bind fun x12 =>
  (q38z n ((Ev.Node.mk x12.id x12.labels x12.props), ())).bind fun (y14, _) =>
  ck (room (o11 ++ ([(Ev.Node.mk y14.id y14.labels y14.props)] : List Ev.Node)).length 56) (rec (v2, v3, v4, IntKind.wrap .i64 (v5 + 1), (v6.1, v6.2.1, ()), ((Ev.Delta.mk o7.1.gone o7.1.fresh o7.1.goneE o7.1.freshE o7.1.src o7.1.dst), ()), ((Ev.Delta.mk o8.1.gone o8.1.fresh o8.1.goneE o8.1.freshE o8.1.src o8.1.dst), ()), (o9.1, o9.2.1, ()), (o10.1, ()), o11 ++ ([(Ev.Node.mk y14.id y14.labels y14.props)] : List Ev.Node), ()))
  else kx (v2, (v6.1, v6.2.1, ()), ((Ev.Delta.mk o7.1.gone o7.1.fresh o7.1.goneE o7.1.freshE o7.1.src o7.1.dst), ()), ((Ev.Delta.mk o8.1.gone o8.1.fresh o8.1.goneE o8.1.freshE o8.1.src o8.1.dst), ()), (o9.1, o9.2.1, ()), o11, ()))

noncomputable def txn_Back_s2v0 {ρ : Type} (n : Nat) (rec : Int × (List Ev.Node) × Int × Int × ((List Ev.Node) × (List Ev.Node) × Unit) × (Ev.Delta × Unit) × (Ev.Delta × Unit) × (Int × Int × Unit) × ((List Ev.Node) × Unit) × (List Ev.Node) × (List Ev.Node) × Unit → Option ρ) (kx : Int × ((List Ev.Node) × (List Ev.Node) × Unit) × (Ev.Delta × Unit) × (Ev.Delta × Unit) × (Int × Int × Unit) × (List Ev.Node) × (List Ev.Node) × Unit → Option ρ) (kr : Unit → Option ρ) : Int × (List Ev.Node) × Int × Int × ((List Ev.Node) × (List Ev.Node) × Unit) × (Ev.Delta × Unit) × (Ev.Delta × Unit) × (Int × Int × Unit) × ((List Ev.Node) × Unit) × (List Ev.Node) × (List Ev.Node) × Unit → Option ρ :=
  fun (v21, v22, v23, v24, v25, o26, o27, o28, o29, o30, o31, _) =>
  (bif decide ((v24 : Int) < v23) then
  (ix v22 v24).bind fun x32 =>
  (q38z n ((Ev.Node.mk x32.id x32.labels x32.props), ())).bind fun (y34, _) =>
  ck (room (o30 ++ ([(Ev.Node.mk y34.id y34.labels y34.props)] : List Ev.Node)).length 56) (rec (v21, v22, v23, IntKind.wrap .i64 (v24 + 1), (v25.1, v25.2.1, ()), ((Ev.Delta.mk o26.1.gone o26.1.fresh o26.1.goneE o26.1.freshE o26.1.src o26.1.dst), ()), ((Ev.Delta.mk o27.1.gone o27.1.fresh o27.1.goneE o27.1.freshE o27.1.src o27.1.dst), ()), (o28.1, o28.2.1, ()), (o29.1, ()), o30 ++ ([(Ev.Node.mk y34.id y34.labels y34.props)] : List Ev.Node), o31, ()))
  else kx (v21, (v25.1, v25.2.1, ()), ((Ev.Delta.mk o26.1.gone o26.1.fresh o26.1.goneE o26.1.freshE o26.1.src o26.1.dst), ()), ((Ev.Delta.mk o27.1.gone o27.1.fresh o27.1.goneE o27.1.freshE o27.1.src o27.1.dst), ()), (o28.1, o28.2.1, ()), o30, o31, ()))

noncomputable def txn_Back_s2v1 {ρ : Type} (n : Nat) (rec : Int × (List Ev.Node) × Int × Int × ((List Ev.Node) × (List Ev.Node) × Unit) × (Ev.Delta × Unit) × (Ev.Delta × Unit) × (Int × Int × Unit) × ((List Ev.Node) × Unit) × (List Ev.Node) × (List Ev.Node) × Unit → Option ρ) (kx : Int × ((List Ev.Node) × (List Ev.Node) × Unit) × (Ev.Delta × Unit) × (Ev.Delta × Unit) × (Int × Int × Unit) × (List Ev.Node) × (List Ev.Node) × Unit → Option ρ) (kr : Unit → Option ρ) : Int × (List Ev.Node) × Int × Int × ((List Ev.Node) × (List Ev.Node) × Unit) × (Ev.Delta × Unit) × (Ev.Delta × Unit) × (Int × Int × Unit) × ((List Ev.Node) × Unit) × (List Ev.Node) × (List Ev.Node) × Unit → Option ρ :=
  fun (v50, v51, v52, v53, v54, o55, o56, o57, o58, o59, o60, _) =>
  (bif decide ((v53 : Int) < v52) then
  (ix v51 v53).bind fun x61 =>
  (q38z n ((Ev.Node.mk x61.id x61.labels x61.props), ())).bind fun (y63, _) =>
  ck (room (o60 ++ ([(Ev.Node.mk y63.id y63.labels y63.props)] : List Ev.Node)).length 56) (rec (v50, v51, v52, IntKind.wrap .i64 (v53 + 1), (v54.1, v54.2.1, ()), ((Ev.Delta.mk o55.1.gone o55.1.fresh o55.1.goneE o55.1.freshE o55.1.src o55.1.dst), ()), ((Ev.Delta.mk o56.1.gone o56.1.fresh o56.1.goneE o56.1.freshE o56.1.src o56.1.dst), ()), (o57.1, o57.2.1, ()), (o58.1, ()), o59, o60 ++ ([(Ev.Node.mk y63.id y63.labels y63.props)] : List Ev.Node), ()))
  else kx (v50, (v54.1, v54.2.1, ()), ((Ev.Delta.mk o55.1.gone o55.1.fresh o55.1.goneE o55.1.freshE o55.1.src o55.1.dst), ()), ((Ev.Delta.mk o56.1.gone o56.1.fresh o56.1.goneE o56.1.freshE o56.1.src o56.1.dst), ()), (o57.1, o57.2.1, ()), o59, o60, ()))

noncomputable def txn_Back_s4 {ρ : Type} (n : Nat) (rec : (List Ev.Edg) × Int × Int × (Ev.Delta × Unit) × (Ev.Delta × Unit) × (Int × Int × Unit) × (List Ev.Node) × (List Ev.Node) × (List Ev.Edg) × Unit → Option ρ) (kx : (Ev.Delta × Unit) × (Ev.Delta × Unit) × (Int × Int × Unit) × (List Ev.Node) × (List Ev.Node) × (List Ev.Edg) × Unit → Option ρ) (kr : Unit → Option ρ) : (List Ev.Edg) × Int × Int × (Ev.Delta × Unit) × (Ev.Delta × Unit) × (Int × Int × Unit) × (List Ev.Node) × (List Ev.Node) × (List Ev.Edg) × Unit → Option ρ :=
  fun (v72, v73, v74, o75, o76, o77, o78, o79, o80, _) =>
  (bif decide ((v74 : Int) < v73) then
  (ix v72 v74).bind fun x81 =>
  (q37z n ((Ev.Edg.mk x81.id x81.src x81.dst x81.type x81.props), ())).bind fun (y83, _) =>
  ck (room (o80 ++ ([(Ev.Edg.mk y83.id y83.src y83.dst y83.type y83.props)] : List Ev.Edg)).length 64) (rec (v72, v73, IntKind.wrap .i64 (v74 + 1), ((Ev.Delta.mk o75.1.gone o75.1.fresh o75.1.goneE o75.1.freshE o75.1.src o75.1.dst), ()), ((Ev.Delta.mk o76.1.gone o76.1.fresh o76.1.goneE o76.1.freshE o76.1.src o76.1.dst), ()), (o77.1, o77.2.1, ()), o78, o79, o80 ++ ([(Ev.Edg.mk y83.id y83.src y83.dst y83.type y83.props)] : List Ev.Edg), ()))
  else kx (((Ev.Delta.mk o75.1.gone o75.1.fresh o75.1.goneE o75.1.freshE o75.1.src o75.1.dst), ()), ((Ev.Delta.mk o76.1.gone o76.1.fresh o76.1.goneE o76.1.freshE o76.1.src o76.1.dst), ()), (o77.1, o77.2.1, ()), o78, o79, o80, ()))

noncomputable def txn_Back_s6 {ρ : Type} (n : Nat) (rec : (List Ev.Edg) × Int × Int × (Ev.Delta × Unit) × (Int × Int × Unit) × (List Ev.Node) × (List Ev.Node) × (List Ev.Edg) × (List Ev.Edg) × Unit → Option ρ) (kx : (Ev.Delta × Unit) × (Int × Int × Unit) × (List Ev.Node) × (List Ev.Node) × (List Ev.Edg) × (List Ev.Edg) × Unit → Option ρ) (kr : Unit → Option ρ) : (List Ev.Edg) × Int × Int × (Ev.Delta × Unit) × (Int × Int × Unit) × (List Ev.Node) × (List Ev.Node) × (List Ev.Edg) × (List Ev.Edg) × Unit → Option ρ :=
  fun (v90, v91, v92, o93, o94, o95, o96, o97, o98, _) =>
  (bif decide ((v92 : Int) < v91) then
  (ix v90 v92).bind fun x99 =>
  (q37z n ((Ev.Edg.mk x99.id x99.src x99.dst x99.type x99.props), ())).bind fun (y101, _) =>
  ck (room (o97 ++ ([(Ev.Edg.mk y101.id y101.src y101.dst y101.type y101.props)] : List Ev.Edg)).length 64) (rec (v90, v91, IntKind.wrap .i64 (v92 + 1), ((Ev.Delta.mk o93.1.gone o93.1.fresh o93.1.goneE o93.1.freshE o93.1.src o93.1.dst), ()), (o94.1, o94.2.1, ()), o95, o96, o97 ++ ([(Ev.Edg.mk y101.id y101.src y101.dst y101.type y101.props)] : List Ev.Edg), o98, ()))
  else kx (((Ev.Delta.mk o93.1.gone o93.1.fresh o93.1.goneE o93.1.freshE o93.1.src o93.1.dst), ()), (o94.1, o94.2.1, ()), o95, o96, o97, o98, ()))

noncomputable def txn_Back_s4v0 {ρ : Type} (n : Nat) (rec : (List Ev.Edg) × Int × Int × (Ev.Delta × Unit) × (Ev.Delta × Unit) × (Int × Int × Unit) × (List Ev.Node) × (List Ev.Edg) × Unit → Option ρ) (kx : (Ev.Delta × Unit) × (Ev.Delta × Unit) × (Int × Int × Unit) × (List Ev.Node) × (List Ev.Edg) × Unit → Option ρ) (kr : Unit → Option ρ) : (List Ev.Edg) × Int × Int × (Ev.Delta × Unit) × (Ev.Delta × Unit) × (Int × Int × Unit) × (List Ev.Node) × (List Ev.Edg) × Unit → Option ρ :=
  fun (v132, v133, v134, o135, o136, o137, o138, o139, _) =>
  (bif decide ((v134 : Int) < v133) then
  (ix v132 v134).bind fun x140 =>
  (q37z n ((Ev.Edg.mk x140.id x140.src x140.dst x140.type x140.props), ())).bind fun (y142, _) =>
  ck (room (o139 ++ ([(Ev.Edg.mk y142.id y142.src y142.dst y142.type y142.props)] : List Ev.Edg)).length 64) (rec (v132, v133, IntKind.wrap .i64 (v134 + 1), ((Ev.Delta.mk o135.1.gone o135.1.fresh o135.1.goneE o135.1.freshE o135.1.src o135.1.dst), ()), ((Ev.Delta.mk o136.1.gone o136.1.fresh o136.1.goneE o136.1.freshE o136.1.src o136.1.dst), ()), (o137.1, o137.2.1, ()), o138, o139 ++ ([(Ev.Edg.mk y142.id y142.src y142.dst y142.type y142.props)] : List Ev.Edg), ()))
  else kx (((Ev.Delta.mk o135.1.gone o135.1.fresh o135.1.goneE o135.1.freshE o135.1.src o135.1.dst), ()), ((Ev.Delta.mk o136.1.gone o136.1.fresh o136.1.goneE o136.1.freshE o136.1.src o136.1.dst), ()), (o137.1, o137.2.1, ()), o138, o139, ()))

noncomputable def txn_Back_s6v0 {ρ : Type} (n : Nat) (rec : (List Ev.Edg) × Int × Int × (Ev.Delta × Unit) × (Int × Int × Unit) × (List Ev.Node) × (List Ev.Edg) × (List Ev.Edg) × Unit → Option ρ) (kx : (Ev.Delta × Unit) × (Int × Int × Unit) × (List Ev.Node) × (List Ev.Edg) × (List Ev.Edg) × Unit → Option ρ) (kr : Unit → Option ρ) : (List Ev.Edg) × Int × Int × (Ev.Delta × Unit) × (Int × Int × Unit) × (List Ev.Node) × (List Ev.Edg) × (List Ev.Edg) × Unit → Option ρ :=
  fun (v148, v149, v150, o151, o152, o153, o154, o155, _) =>
  (bif decide ((v150 : Int) < v149) then
  (ix v148 v150).bind fun x156 =>
  (q37z n ((Ev.Edg.mk x156.id x156.src x156.dst x156.type x156.props), ())).bind fun (y158, _) =>
  ck (room (o154 ++ ([(Ev.Edg.mk y158.id y158.src y158.dst y158.type y158.props)] : List Ev.Edg)).length 64) (rec (v148, v149, IntKind.wrap .i64 (v150 + 1), ((Ev.Delta.mk o151.1.gone o151.1.fresh o151.1.goneE o151.1.freshE o151.1.src o151.1.dst), ()), (o152.1, o152.2.1, ()), o153, o154 ++ ([(Ev.Edg.mk y158.id y158.src y158.dst y158.type y158.props)] : List Ev.Edg), o155, ()))
  else kx (((Ev.Delta.mk o151.1.gone o151.1.fresh o151.1.goneE o151.1.freshE o151.1.src o151.1.dst), ()), (o152.1, o152.2.1, ()), o153, o154, o155, ()))

noncomputable def F_txn_Back_s2 {ρ : Type} (n : Nat) (kr : Unit → Option ρ) : Int → Ev.Node → (Int × ((List Ev.Node) × (List Ev.Node) × Unit) × (Ev.Delta × Unit) × (Ev.Delta × Unit) × (Int × Int × Unit) × ((List Ev.Node) × Unit) × (List Ev.Node) × Unit) → ((Int × ((List Ev.Node) × (List Ev.Node) × Unit) × (Ev.Delta × Unit) × (Ev.Delta × Unit) × (Int × Int × Unit) × ((List Ev.Node) × Unit) × (List Ev.Node) × Unit) → Option ρ) → Option ρ :=
  fun v5 x12 (v2, v6, o7, o8, o9, o10, o11, _) rec =>
  (q38z n ((Ev.Node.mk x12.id x12.labels x12.props), ())).bind fun (y14, _) =>
  ck (room (o11 ++ ([(Ev.Node.mk y14.id y14.labels y14.props)] : List Ev.Node)).length 56) (rec (v2, (v6.1, v6.2.1, ()), ((Ev.Delta.mk o7.1.gone o7.1.fresh o7.1.goneE o7.1.freshE o7.1.src o7.1.dst), ()), ((Ev.Delta.mk o8.1.gone o8.1.fresh o8.1.goneE o8.1.freshE o8.1.src o8.1.dst), ()), (o9.1, o9.2.1, ()), (o10.1, ()), o11 ++ ([(Ev.Node.mk y14.id y14.labels y14.props)] : List Ev.Node), ()))

theorem R_txn_Back_s2 {ρ : Type} (n : Nat) (kx : Int × ((List Ev.Node) × (List Ev.Node) × Unit) × (Ev.Delta × Unit) × (Ev.Delta × Unit) × (Int × Int × Unit) × (List Ev.Node) × Unit → Option ρ) (kr : Unit → Option ρ) (l : List Ev.Node) (fuel : Nat) (v2 : Int) (v6 : (List Ev.Node) × (List Ev.Node) × Unit) (o7 : Ev.Delta × Unit) (o8 : Ev.Delta × Unit) (o9 : Int × Int × Unit) (o10 : (List Ev.Node) × Unit) (o11 : List Ev.Node) (hl : l.length ≤ 9223372036854775807) (hf : l.length < fuel) :
    iterN (fun rc => txn_Back_s2 n rc kx kr) fuel (v2, l, (l.length : Int), 0, v6, o7, o8, o9, o10, o11, ()) = foldK (F_txn_Back_s2 n kr) (fun (v2, v6, o7, o8, o9, o10, o11, _) => kx (v2, (v6.1, v6.2.1, ()), ((Ev.Delta.mk o7.1.gone o7.1.fresh o7.1.goneE o7.1.freshE o7.1.src o7.1.dst), ()), ((Ev.Delta.mk o8.1.gone o8.1.fresh o8.1.goneE o8.1.freshE o8.1.src o8.1.dst), ()), (o9.1, o9.2.1, ()), o11, ())) 0 l (v2, v6, o7, o8, o9, o10, o11, ()) :=
  range_listM l (fun i (v2, v6, o7, o8, o9, o10, o11, _) => (v2, l, (l.length : Int), i, v6, o7, o8, o9, o10, o11, ())) _ _ _ (fun rec i s => rfl) hl fuel (v2, v6, o7, o8, o9, o10, o11, ()) hf

noncomputable def F_txn_Back_s2v0 {ρ : Type} (n : Nat) (kr : Unit → Option ρ) : Int → Ev.Node → (Int × ((List Ev.Node) × (List Ev.Node) × Unit) × (Ev.Delta × Unit) × (Ev.Delta × Unit) × (Int × Int × Unit) × ((List Ev.Node) × Unit) × (List Ev.Node) × (List Ev.Node) × Unit) → ((Int × ((List Ev.Node) × (List Ev.Node) × Unit) × (Ev.Delta × Unit) × (Ev.Delta × Unit) × (Int × Int × Unit) × ((List Ev.Node) × Unit) × (List Ev.Node) × (List Ev.Node) × Unit) → Option ρ) → Option ρ :=
  fun v24 x32 (v21, v25, o26, o27, o28, o29, o30, o31, _) rec =>
  (q38z n ((Ev.Node.mk x32.id x32.labels x32.props), ())).bind fun (y34, _) =>
  ck (room (o30 ++ ([(Ev.Node.mk y34.id y34.labels y34.props)] : List Ev.Node)).length 56) (rec (v21, (v25.1, v25.2.1, ()), ((Ev.Delta.mk o26.1.gone o26.1.fresh o26.1.goneE o26.1.freshE o26.1.src o26.1.dst), ()), ((Ev.Delta.mk o27.1.gone o27.1.fresh o27.1.goneE o27.1.freshE o27.1.src o27.1.dst), ()), (o28.1, o28.2.1, ()), (o29.1, ()), o30 ++ ([(Ev.Node.mk y34.id y34.labels y34.props)] : List Ev.Node), o31, ()))

theorem R_txn_Back_s2v0 {ρ : Type} (n : Nat) (kx : Int × ((List Ev.Node) × (List Ev.Node) × Unit) × (Ev.Delta × Unit) × (Ev.Delta × Unit) × (Int × Int × Unit) × (List Ev.Node) × (List Ev.Node) × Unit → Option ρ) (kr : Unit → Option ρ) (l : List Ev.Node) (fuel : Nat) (v21 : Int) (v25 : (List Ev.Node) × (List Ev.Node) × Unit) (o26 : Ev.Delta × Unit) (o27 : Ev.Delta × Unit) (o28 : Int × Int × Unit) (o29 : (List Ev.Node) × Unit) (o30 : List Ev.Node) (o31 : List Ev.Node) (hl : l.length ≤ 9223372036854775807) (hf : l.length < fuel) :
    iterN (fun rc => txn_Back_s2v0 n rc kx kr) fuel (v21, l, (l.length : Int), 0, v25, o26, o27, o28, o29, o30, o31, ()) = foldK (F_txn_Back_s2v0 n kr) (fun (v21, v25, o26, o27, o28, o29, o30, o31, _) => kx (v21, (v25.1, v25.2.1, ()), ((Ev.Delta.mk o26.1.gone o26.1.fresh o26.1.goneE o26.1.freshE o26.1.src o26.1.dst), ()), ((Ev.Delta.mk o27.1.gone o27.1.fresh o27.1.goneE o27.1.freshE o27.1.src o27.1.dst), ()), (o28.1, o28.2.1, ()), o30, o31, ())) 0 l (v21, v25, o26, o27, o28, o29, o30, o31, ()) :=
  range_listM l (fun i (v21, v25, o26, o27, o28, o29, o30, o31, _) => (v21, l, (l.length : Int), i, v25, o26, o27, o28, o29, o30, o31, ())) _ _ _ (fun rec i s => rfl) hl fuel (v21, v25, o26, o27, o28, o29, o30, o31, ()) hf

noncomputable def F_txn_Back_s2v1 {ρ : Type} (n : Nat) (kr : Unit → Option ρ) : Int → Ev.Node → (Int × ((List Ev.Node) × (List Ev.Node) × Unit) × (Ev.Delta × Unit) × (Ev.Delta × Unit) × (Int × Int × Unit) × ((List Ev.Node) × Unit) × (List Ev.Node) × (List Ev.Node) × Unit) → ((Int × ((List Ev.Node) × (List Ev.Node) × Unit) × (Ev.Delta × Unit) × (Ev.Delta × Unit) × (Int × Int × Unit) × ((List Ev.Node) × Unit) × (List Ev.Node) × (List Ev.Node) × Unit) → Option ρ) → Option ρ :=
  fun v53 x61 (v50, v54, o55, o56, o57, o58, o59, o60, _) rec =>
  (q38z n ((Ev.Node.mk x61.id x61.labels x61.props), ())).bind fun (y63, _) =>
  ck (room (o60 ++ ([(Ev.Node.mk y63.id y63.labels y63.props)] : List Ev.Node)).length 56) (rec (v50, (v54.1, v54.2.1, ()), ((Ev.Delta.mk o55.1.gone o55.1.fresh o55.1.goneE o55.1.freshE o55.1.src o55.1.dst), ()), ((Ev.Delta.mk o56.1.gone o56.1.fresh o56.1.goneE o56.1.freshE o56.1.src o56.1.dst), ()), (o57.1, o57.2.1, ()), (o58.1, ()), o59, o60 ++ ([(Ev.Node.mk y63.id y63.labels y63.props)] : List Ev.Node), ()))

theorem R_txn_Back_s2v1 {ρ : Type} (n : Nat) (kx : Int × ((List Ev.Node) × (List Ev.Node) × Unit) × (Ev.Delta × Unit) × (Ev.Delta × Unit) × (Int × Int × Unit) × (List Ev.Node) × (List Ev.Node) × Unit → Option ρ) (kr : Unit → Option ρ) (l : List Ev.Node) (fuel : Nat) (v50 : Int) (v54 : (List Ev.Node) × (List Ev.Node) × Unit) (o55 : Ev.Delta × Unit) (o56 : Ev.Delta × Unit) (o57 : Int × Int × Unit) (o58 : (List Ev.Node) × Unit) (o59 : List Ev.Node) (o60 : List Ev.Node) (hl : l.length ≤ 9223372036854775807) (hf : l.length < fuel) :
    iterN (fun rc => txn_Back_s2v1 n rc kx kr) fuel (v50, l, (l.length : Int), 0, v54, o55, o56, o57, o58, o59, o60, ()) = foldK (F_txn_Back_s2v1 n kr) (fun (v50, v54, o55, o56, o57, o58, o59, o60, _) => kx (v50, (v54.1, v54.2.1, ()), ((Ev.Delta.mk o55.1.gone o55.1.fresh o55.1.goneE o55.1.freshE o55.1.src o55.1.dst), ()), ((Ev.Delta.mk o56.1.gone o56.1.fresh o56.1.goneE o56.1.freshE o56.1.src o56.1.dst), ()), (o57.1, o57.2.1, ()), o59, o60, ())) 0 l (v50, v54, o55, o56, o57, o58, o59, o60, ()) :=
  range_listM l (fun i (v50, v54, o55, o56, o57, o58, o59, o60, _) => (v50, l, (l.length : Int), i, v54, o55, o56, o57, o58, o59, o60, ())) _ _ _ (fun rec i s => rfl) hl fuel (v50, v54, o55, o56, o57, o58, o59, o60, ()) hf

noncomputable def F_txn_Back_s4 {ρ : Type} (n : Nat) (kr : Unit → Option ρ) : Int → Ev.Edg → ((Ev.Delta × Unit) × (Ev.Delta × Unit) × (Int × Int × Unit) × (List Ev.Node) × (List Ev.Node) × (List Ev.Edg) × Unit) → (((Ev.Delta × Unit) × (Ev.Delta × Unit) × (Int × Int × Unit) × (List Ev.Node) × (List Ev.Node) × (List Ev.Edg) × Unit) → Option ρ) → Option ρ :=
  fun v74 x81 (o75, o76, o77, o78, o79, o80, _) rec =>
  (q37z n ((Ev.Edg.mk x81.id x81.src x81.dst x81.type x81.props), ())).bind fun (y83, _) =>
  ck (room (o80 ++ ([(Ev.Edg.mk y83.id y83.src y83.dst y83.type y83.props)] : List Ev.Edg)).length 64) (rec (((Ev.Delta.mk o75.1.gone o75.1.fresh o75.1.goneE o75.1.freshE o75.1.src o75.1.dst), ()), ((Ev.Delta.mk o76.1.gone o76.1.fresh o76.1.goneE o76.1.freshE o76.1.src o76.1.dst), ()), (o77.1, o77.2.1, ()), o78, o79, o80 ++ ([(Ev.Edg.mk y83.id y83.src y83.dst y83.type y83.props)] : List Ev.Edg), ()))

theorem R_txn_Back_s4 {ρ : Type} (n : Nat) (kx : (Ev.Delta × Unit) × (Ev.Delta × Unit) × (Int × Int × Unit) × (List Ev.Node) × (List Ev.Node) × (List Ev.Edg) × Unit → Option ρ) (kr : Unit → Option ρ) (l : List Ev.Edg) (fuel : Nat) (o75 : Ev.Delta × Unit) (o76 : Ev.Delta × Unit) (o77 : Int × Int × Unit) (o78 : List Ev.Node) (o79 : List Ev.Node) (o80 : List Ev.Edg) (hl : l.length ≤ 9223372036854775807) (hf : l.length < fuel) :
    iterN (fun rc => txn_Back_s4 n rc kx kr) fuel (l, (l.length : Int), 0, o75, o76, o77, o78, o79, o80, ()) = foldK (F_txn_Back_s4 n kr) (fun (o75, o76, o77, o78, o79, o80, _) => kx (((Ev.Delta.mk o75.1.gone o75.1.fresh o75.1.goneE o75.1.freshE o75.1.src o75.1.dst), ()), ((Ev.Delta.mk o76.1.gone o76.1.fresh o76.1.goneE o76.1.freshE o76.1.src o76.1.dst), ()), (o77.1, o77.2.1, ()), o78, o79, o80, ())) 0 l (o75, o76, o77, o78, o79, o80, ()) :=
  range_listM l (fun i (o75, o76, o77, o78, o79, o80, _) => (l, (l.length : Int), i, o75, o76, o77, o78, o79, o80, ())) _ _ _ (fun rec i s => rfl) hl fuel (o75, o76, o77, o78, o79, o80, ()) hf

noncomputable def F_txn_Back_s6 {ρ : Type} (n : Nat) (kr : Unit → Option ρ) : Int → Ev.Edg → ((Ev.Delta × Unit) × (Int × Int × Unit) × (List Ev.Node) × (List Ev.Node) × (List Ev.Edg) × (List Ev.Edg) × Unit) → (((Ev.Delta × Unit) × (Int × Int × Unit) × (List Ev.Node) × (List Ev.Node) × (List Ev.Edg) × (List Ev.Edg) × Unit) → Option ρ) → Option ρ :=
  fun v92 x99 (o93, o94, o95, o96, o97, o98, _) rec =>
  (q37z n ((Ev.Edg.mk x99.id x99.src x99.dst x99.type x99.props), ())).bind fun (y101, _) =>
  ck (room (o97 ++ ([(Ev.Edg.mk y101.id y101.src y101.dst y101.type y101.props)] : List Ev.Edg)).length 64) (rec (((Ev.Delta.mk o93.1.gone o93.1.fresh o93.1.goneE o93.1.freshE o93.1.src o93.1.dst), ()), (o94.1, o94.2.1, ()), o95, o96, o97 ++ ([(Ev.Edg.mk y101.id y101.src y101.dst y101.type y101.props)] : List Ev.Edg), o98, ()))

theorem R_txn_Back_s6 {ρ : Type} (n : Nat) (kx : (Ev.Delta × Unit) × (Int × Int × Unit) × (List Ev.Node) × (List Ev.Node) × (List Ev.Edg) × (List Ev.Edg) × Unit → Option ρ) (kr : Unit → Option ρ) (l : List Ev.Edg) (fuel : Nat) (o93 : Ev.Delta × Unit) (o94 : Int × Int × Unit) (o95 : List Ev.Node) (o96 : List Ev.Node) (o97 : List Ev.Edg) (o98 : List Ev.Edg) (hl : l.length ≤ 9223372036854775807) (hf : l.length < fuel) :
    iterN (fun rc => txn_Back_s6 n rc kx kr) fuel (l, (l.length : Int), 0, o93, o94, o95, o96, o97, o98, ()) = foldK (F_txn_Back_s6 n kr) (fun (o93, o94, o95, o96, o97, o98, _) => kx (((Ev.Delta.mk o93.1.gone o93.1.fresh o93.1.goneE o93.1.freshE o93.1.src o93.1.dst), ()), (o94.1, o94.2.1, ()), o95, o96, o97, o98, ())) 0 l (o93, o94, o95, o96, o97, o98, ()) :=
  range_listM l (fun i (o93, o94, o95, o96, o97, o98, _) => (l, (l.length : Int), i, o93, o94, o95, o96, o97, o98, ())) _ _ _ (fun rec i s => rfl) hl fuel (o93, o94, o95, o96, o97, o98, ()) hf

noncomputable def F_txn_Back_s4v0 {ρ : Type} (n : Nat) (kr : Unit → Option ρ) : Int → Ev.Edg → ((Ev.Delta × Unit) × (Ev.Delta × Unit) × (Int × Int × Unit) × (List Ev.Node) × (List Ev.Edg) × Unit) → (((Ev.Delta × Unit) × (Ev.Delta × Unit) × (Int × Int × Unit) × (List Ev.Node) × (List Ev.Edg) × Unit) → Option ρ) → Option ρ :=
  fun v134 x140 (o135, o136, o137, o138, o139, _) rec =>
  (q37z n ((Ev.Edg.mk x140.id x140.src x140.dst x140.type x140.props), ())).bind fun (y142, _) =>
  ck (room (o139 ++ ([(Ev.Edg.mk y142.id y142.src y142.dst y142.type y142.props)] : List Ev.Edg)).length 64) (rec (((Ev.Delta.mk o135.1.gone o135.1.fresh o135.1.goneE o135.1.freshE o135.1.src o135.1.dst), ()), ((Ev.Delta.mk o136.1.gone o136.1.fresh o136.1.goneE o136.1.freshE o136.1.src o136.1.dst), ()), (o137.1, o137.2.1, ()), o138, o139 ++ ([(Ev.Edg.mk y142.id y142.src y142.dst y142.type y142.props)] : List Ev.Edg), ()))

theorem R_txn_Back_s4v0 {ρ : Type} (n : Nat) (kx : (Ev.Delta × Unit) × (Ev.Delta × Unit) × (Int × Int × Unit) × (List Ev.Node) × (List Ev.Edg) × Unit → Option ρ) (kr : Unit → Option ρ) (l : List Ev.Edg) (fuel : Nat) (o135 : Ev.Delta × Unit) (o136 : Ev.Delta × Unit) (o137 : Int × Int × Unit) (o138 : List Ev.Node) (o139 : List Ev.Edg) (hl : l.length ≤ 9223372036854775807) (hf : l.length < fuel) :
    iterN (fun rc => txn_Back_s4v0 n rc kx kr) fuel (l, (l.length : Int), 0, o135, o136, o137, o138, o139, ()) = foldK (F_txn_Back_s4v0 n kr) (fun (o135, o136, o137, o138, o139, _) => kx (((Ev.Delta.mk o135.1.gone o135.1.fresh o135.1.goneE o135.1.freshE o135.1.src o135.1.dst), ()), ((Ev.Delta.mk o136.1.gone o136.1.fresh o136.1.goneE o136.1.freshE o136.1.src o136.1.dst), ()), (o137.1, o137.2.1, ()), o138, o139, ())) 0 l (o135, o136, o137, o138, o139, ()) :=
  range_listM l (fun i (o135, o136, o137, o138, o139, _) => (l, (l.length : Int), i, o135, o136, o137, o138, o139, ())) _ _ _ (fun rec i s => rfl) hl fuel (o135, o136, o137, o138, o139, ()) hf

noncomputable def F_txn_Back_s6v0 {ρ : Type} (n : Nat) (kr : Unit → Option ρ) : Int → Ev.Edg → ((Ev.Delta × Unit) × (Int × Int × Unit) × (List Ev.Node) × (List Ev.Edg) × (List Ev.Edg) × Unit) → (((Ev.Delta × Unit) × (Int × Int × Unit) × (List Ev.Node) × (List Ev.Edg) × (List Ev.Edg) × Unit) → Option ρ) → Option ρ :=
  fun v150 x156 (o151, o152, o153, o154, o155, _) rec =>
  (q37z n ((Ev.Edg.mk x156.id x156.src x156.dst x156.type x156.props), ())).bind fun (y158, _) =>
  ck (room (o154 ++ ([(Ev.Edg.mk y158.id y158.src y158.dst y158.type y158.props)] : List Ev.Edg)).length 64) (rec (((Ev.Delta.mk o151.1.gone o151.1.fresh o151.1.goneE o151.1.freshE o151.1.src o151.1.dst), ()), (o152.1, o152.2.1, ()), o153, o154 ++ ([(Ev.Edg.mk y158.id y158.src y158.dst y158.type y158.props)] : List Ev.Edg), o155, ()))

theorem R_txn_Back_s6v0 {ρ : Type} (n : Nat) (kx : (Ev.Delta × Unit) × (Int × Int × Unit) × (List Ev.Node) × (List Ev.Edg) × (List Ev.Edg) × Unit → Option ρ) (kr : Unit → Option ρ) (l : List Ev.Edg) (fuel : Nat) (o151 : Ev.Delta × Unit) (o152 : Int × Int × Unit) (o153 : List Ev.Node) (o154 : List Ev.Edg) (o155 : List Ev.Edg) (hl : l.length ≤ 9223372036854775807) (hf : l.length < fuel) :
    iterN (fun rc => txn_Back_s6v0 n rc kx kr) fuel (l, (l.length : Int), 0, o151, o152, o153, o154, o155, ()) = foldK (F_txn_Back_s6v0 n kr) (fun (o151, o152, o153, o154, o155, _) => kx (((Ev.Delta.mk o151.1.gone o151.1.fresh o151.1.goneE o151.1.freshE o151.1.src o151.1.dst), ()), (o152.1, o152.2.1, ()), o153, o154, o155, ())) 0 l (o151, o152, o153, o154, o155, ()) :=
  range_listM l (fun i (o151, o152, o153, o154, o155, _) => (l, (l.length : Int), i, o151, o152, o153, o154, o155, ())) _ _ _ (fun rec i s => rfl) hl fuel (o151, o152, o153, o154, o155, ()) hf

noncomputable def txn_Back (n : Nat) : Ev.Delta × Unit → Option (Ev.Delta × Unit) :=
  fun (a1, _) =>
  iterN (fun rc179 => txn_Back_s2 n rc179 (fun (v15, v16, o17, o18, o19, o20, _) =>
  (bif decide ((IntKind.wrap .i64 (v15 + 1) : Int) < 2) then
  (bif (IntKind.wrap .i64 (v15 + 1) : Int) == 0 then
  iterN (fun rc166 => txn_Back_s2 n rc166 (fun (v111, v112, o113, o114, o115, o116, _) =>
  (bif decide ((IntKind.wrap .i64 (v111 + 1) : Int) < 2) then
  (bif (IntKind.wrap .i64 (v111 + 1) : Int) == 0 then
  iterN (fun rc131 => txn_Back_s2 n rc131 (fun (v125, v126, o127, o128, o129, o130, _) => none) (fun (_) => none)) (n) (IntKind.wrap .i64 (v111 + 1), v112.1, (v112.1.length : Int), 0, (v112.1, v112.2.1, ()), ((Ev.Delta.mk o113.1.gone o113.1.fresh o113.1.goneE o113.1.freshE o113.1.src o113.1.dst), ()), ((Ev.Delta.mk o114.1.gone o114.1.fresh o114.1.goneE o114.1.freshE o114.1.src o114.1.dst), ()), (o115.1, o115.2.1, ()), (v112.1, ()), o116, ())
  else
  (bif (IntKind.wrap .i64 (v111 + 1) : Int) == 1 then
  iterN (fun rc124 => txn_Back_s2v0 n rc124 (fun (v117, v118, o119, o120, o121, o122, o123, _) => none) (fun (_) => none)) (n) (IntKind.wrap .i64 (v111 + 1), v112.2.1, (v112.2.1.length : Int), 0, (v112.1, v112.2.1, ()), ((Ev.Delta.mk o113.1.gone o113.1.fresh o113.1.goneE o113.1.freshE o113.1.src o113.1.dst), ()), ((Ev.Delta.mk o114.1.gone o114.1.fresh o114.1.goneE o114.1.freshE o114.1.src o114.1.dst), ()), (o115.1, o115.2.1, ()), (v112.2.1, ()), ([] : List Ev.Node), o116, ())
  else none))
  else
  iterN (fun rc165 => txn_Back_s4v0 n rc165 (fun (o143, o144, o145, o146, o147, _) =>
  iterN (fun rc164 => txn_Back_s6v0 n rc164 (fun (o159, o160, o161, o162, o163, _) => some ((Ev.Delta.mk ([] : List Ev.Node) o161 o162 o163 o160.1 o160.2.1), ())) (fun (_) => none)) (n) (o143.1.freshE, (o143.1.freshE.length : Int), 0, ((Ev.Delta.mk o144.1.gone o144.1.fresh o144.1.goneE o144.1.freshE o144.1.src o144.1.dst), ()), (o145.1, o145.2.1, ()), o146, ([] : List Ev.Edg), o147, ())) (fun (_) => none)) (n) (o113.1.goneE, (o113.1.goneE.length : Int), 0, ((Ev.Delta.mk o113.1.gone o113.1.fresh o113.1.goneE o113.1.freshE o113.1.src o113.1.dst), ()), ((Ev.Delta.mk o114.1.gone o114.1.fresh o114.1.goneE o114.1.freshE o114.1.src o114.1.dst), ()), (o115.1, o115.2.1, ()), o116, ([] : List Ev.Edg), ()))) (fun (_) => none)) (n) (IntKind.wrap .i64 (v15 + 1), v16.1, (v16.1.length : Int), 0, (v16.1, v16.2.1, ()), ((Ev.Delta.mk o17.1.gone o17.1.fresh o17.1.goneE o17.1.freshE o17.1.src o17.1.dst), ()), ((Ev.Delta.mk o18.1.gone o18.1.fresh o18.1.goneE o18.1.freshE o18.1.src o18.1.dst), ()), (o19.1, o19.2.1, ()), (v16.1, ()), o20, ())
  else
  (bif (IntKind.wrap .i64 (v15 + 1) : Int) == 1 then
  iterN (fun rc110 => txn_Back_s2v0 n rc110 (fun (v35, v36, o37, o38, o39, o40, o41, _) =>
  (bif decide ((IntKind.wrap .i64 (v35 + 1) : Int) < 2) then
  (bif (IntKind.wrap .i64 (v35 + 1) : Int) == 0 then
  iterN (fun rc71 => txn_Back_s2v1 n rc71 (fun (v64, v65, o66, o67, o68, o69, o70, _) => none) (fun (_) => none)) (n) (IntKind.wrap .i64 (v35 + 1), v36.1, (v36.1.length : Int), 0, (v36.1, v36.2.1, ()), ((Ev.Delta.mk o37.1.gone o37.1.fresh o37.1.goneE o37.1.freshE o37.1.src o37.1.dst), ()), ((Ev.Delta.mk o38.1.gone o38.1.fresh o38.1.goneE o38.1.freshE o38.1.src o38.1.dst), ()), (o39.1, o39.2.1, ()), (v36.1, ()), o40, o41, ())
  else
  (bif (IntKind.wrap .i64 (v35 + 1) : Int) == 1 then
  iterN (fun rc49 => txn_Back_s2v0 n rc49 (fun (v42, v43, o44, o45, o46, o47, o48, _) => none) (fun (_) => none)) (n) (IntKind.wrap .i64 (v35 + 1), v36.2.1, (v36.2.1.length : Int), 0, (v36.1, v36.2.1, ()), ((Ev.Delta.mk o37.1.gone o37.1.fresh o37.1.goneE o37.1.freshE o37.1.src o37.1.dst), ()), ((Ev.Delta.mk o38.1.gone o38.1.fresh o38.1.goneE o38.1.freshE o38.1.src o38.1.dst), ()), (o39.1, o39.2.1, ()), (v36.2.1, ()), o40, o41, ())
  else none))
  else
  iterN (fun rc109 => txn_Back_s4 n rc109 (fun (o84, o85, o86, o87, o88, o89, _) =>
  iterN (fun rc108 => txn_Back_s6 n rc108 (fun (o102, o103, o104, o105, o106, o107, _) => some ((Ev.Delta.mk o104 o105 o106 o107 o103.1 o103.2.1), ())) (fun (_) => none)) (n) (o84.1.freshE, (o84.1.freshE.length : Int), 0, ((Ev.Delta.mk o85.1.gone o85.1.fresh o85.1.goneE o85.1.freshE o85.1.src o85.1.dst), ()), (o86.1, o86.2.1, ()), o87, o88, ([] : List Ev.Edg), o89, ())) (fun (_) => none)) (n) (o37.1.goneE, (o37.1.goneE.length : Int), 0, ((Ev.Delta.mk o37.1.gone o37.1.fresh o37.1.goneE o37.1.freshE o37.1.src o37.1.dst), ()), ((Ev.Delta.mk o38.1.gone o38.1.fresh o38.1.goneE o38.1.freshE o38.1.src o38.1.dst), ()), (o39.1, o39.2.1, ()), o40, o41, ([] : List Ev.Edg), ()))) (fun (_) => none)) (n) (IntKind.wrap .i64 (v15 + 1), v16.2.1, (v16.2.1.length : Int), 0, (v16.1, v16.2.1, ()), ((Ev.Delta.mk o17.1.gone o17.1.fresh o17.1.goneE o17.1.freshE o17.1.src o17.1.dst), ()), ((Ev.Delta.mk o18.1.gone o18.1.fresh o18.1.goneE o18.1.freshE o18.1.src o18.1.dst), ()), (o19.1, o19.2.1, ()), (v16.2.1, ()), ([] : List Ev.Node), o20, ())
  else none))
  else
  iterN (fun rc178 => txn_Back_s4v0 n rc178 (fun (o167, o168, o169, o170, o171, _) =>
  iterN (fun rc177 => txn_Back_s6v0 n rc177 (fun (o172, o173, o174, o175, o176, _) => some ((Ev.Delta.mk ([] : List Ev.Node) o174 o175 o176 o173.1 o173.2.1), ())) (fun (_) => none)) (n) (o167.1.freshE, (o167.1.freshE.length : Int), 0, ((Ev.Delta.mk o168.1.gone o168.1.fresh o168.1.goneE o168.1.freshE o168.1.src o168.1.dst), ()), (o169.1, o169.2.1, ()), o170, ([] : List Ev.Edg), o171, ())) (fun (_) => none)) (n) (o17.1.goneE, (o17.1.goneE.length : Int), 0, ((Ev.Delta.mk o17.1.gone o17.1.fresh o17.1.goneE o17.1.freshE o17.1.src o17.1.dst), ()), ((Ev.Delta.mk o18.1.gone o18.1.fresh o18.1.goneE o18.1.freshE o18.1.src o18.1.dst), ()), (o19.1, o19.2.1, ()), o20, ([] : List Ev.Edg), ()))) (fun (_) => none)) (n) (0, a1.gone, (a1.gone.length : Int), 0, (a1.gone, a1.fresh, ()), ((Ev.Delta.mk a1.gone a1.fresh a1.goneE a1.freshE a1.src a1.dst), ()), ((Ev.Delta.mk ([] : List Ev.Node) ([] : List Ev.Node) ([] : List Ev.Edg) ([] : List Ev.Edg) 0 0), ()), (a1.dst, a1.src, ()), (a1.gone, ()), ([] : List Ev.Node), ())

noncomputable def q18z (n : Nat) : Ev.Delta × Ev.Delta × Unit → Option (Bool × Unit) :=
  fun (a1, a2, _) =>
  (bif ((a1.src : Int) == a2.src) && ((a1.dst : Int) == a2.dst) then
  (q2z n (a1.gone, a2.gone, ())).bind fun (y3, _) =>
  (bif y3 then
  (q2z n (a1.fresh, a2.fresh, ())).bind fun (y4, _) =>
  (bif y4 then
  (q1z n (a1.goneE, a2.goneE, ())).bind fun (y5, _) =>
  (bif y5 then
  (q1z n (a1.freshE, a2.freshE, ())).bind fun (y6, _) => some (y6, ())
  else some (false, ()))
  else some (false, ()))
  else some (false, ()))
  else some (false, ()))

noncomputable def q15z (n : Nat) : Ev.Graph × Ev.Graph × Unit → Option (Bool × Unit) :=
  fun (a1, a2, _) =>
  (q49z n ((Ev.Graph.mk a1.nodes a1.edges a1.next), (Ev.Graph.mk a1.nodes a1.edges a1.next), ())).bind fun (y3, y4, _) =>
  (q25z n (())).bind fun (y5, _) =>
  (bif (!y5) || ((y4 : Int) != 0) then
  (q25z n (())).bind fun (y6, _) => some (y6, ())
  else
  (txn_Apply n ((Ev.Graph.mk a1.nodes a1.edges a1.next), ([] : List Ev.Opn), ())).bind fun (y7, y8, y9, y10, _) =>
  (bif (((IntKind.wrap .i64 ((IntKind.wrap .i64 ((IntKind.wrap .i64 ((y3.gone.length : Int) + (y3.fresh.length : Int))) + (y3.goneE.length : Int))) + (y3.freshE.length : Int)) : Int) != 0) || ((y10 : Int) != 0)) || (((y8.length : Int) : Int) != 0) then some (false, ())
  else
  (q19z n ((Ev.Graph.mk y7.nodes y7.edges y7.next), (Ev.Graph.mk a1.nodes a1.edges a1.next), ())).bind fun (y11, _) =>
  (bif !y11 then some (false, ())
  else
  (q49z n ((Ev.Graph.mk a1.nodes a1.edges a1.next), (Ev.Graph.mk a2.nodes a2.edges a2.next), ())).bind fun (y12, y13, _) =>
  (bif (y13 : Int) != 0 then some (true, ())
  else
  (txn_Back n ((Ev.Delta.mk y12.gone y12.fresh y12.goneE y12.freshE y12.src y12.dst), ())).bind fun (y14, _) =>
  (txn_Back n ((Ev.Delta.mk y14.gone y14.fresh y14.goneE y14.freshE y14.src y14.dst), ())).bind fun (y15, _) =>
  (q18z n ((Ev.Delta.mk y15.gone y15.fresh y15.goneE y15.freshE y15.src y15.dst), (Ev.Delta.mk y12.gone y12.fresh y12.goneE y12.freshE y12.src y12.dst), ())).bind fun (y16, _) => some (y16, ())))))

end Pure

/- Plain functions that compute what functions of the program compute (written by gen.py). -/
import Derived.Test.YtojomjomicfcdaaDoorEvLib
import Derived.Test.YtojomjomicfcdaaDoorPRange
namespace Pure
open Esp Ev Go
set_option linter.unusedSimpArgs false
set_option linter.unusedVariables false

noncomputable def q57z_s0 {ρ : Type} (n : Nat) (rec : ByteArray × Int × Int × Unit → Option ρ) (kx : Unit → Option ρ) (kr : Bool × Unit → Option ρ) : ByteArray × Int × Int × Unit → Option ρ :=
  fun (v2, v3, v4, _) =>
  (bif decide ((v4 : Int) < v3) then
  (sat v2 v4).bind fun c5 =>
  (bif (!((((decide ((c5 : Int) ≥ 97)) && (decide ((c5 : Int) ≤ 122))) || ((decide ((c5 : Int) ≥ 65)) && (decide ((c5 : Int) ≤ 90)))) || ((c5 : Int) == 95))) && ((((v4 : Int) == 0) || (decide ((c5 : Int) < 48))) || (decide ((c5 : Int) > 57))) then kr (false, ())
  else rec (v2, v3, IntKind.wrap .i64 (v4 + 1), ()))
  else kx (()))

noncomputable def F_q57z_s0 {ρ : Type} (n : Nat) (kr : Bool × Unit → Option ρ) : Int → Int → Unit → (Unit → Option ρ) → Option ρ :=
  fun v4 c5 (_) rec =>
  (bif (!((((decide ((c5 : Int) ≥ 97)) && (decide ((c5 : Int) ≤ 122))) || ((decide ((c5 : Int) ≥ 65)) && (decide ((c5 : Int) ≤ 90)))) || ((c5 : Int) == 95))) && ((((v4 : Int) == 0) || (decide ((c5 : Int) < 48))) || (decide ((c5 : Int) > 57))) then kr (false, ())
  else rec (()))

theorem R_q57z_s0 {ρ : Type} (n : Nat) (kx : Unit → Option ρ) (kr : Bool × Unit → Option ρ) (l : ByteArray) (fuel : Nat) (hl : l.size ≤ 4611686018427387904) (hf : l.size < fuel) :
    iterN (fun rc => q57z_s0 n rc kx kr) fuel (l, (l.size : Int), 0, ()) = foldK (F_q57z_s0 n kr) (fun (_) => kx (())) 0 (bi l.data.toList) (()) :=
  range_str l (fun i (_) => (l, (l.size : Int), i, ())) _ _ _ (fun rec i s => rfl) hl fuel (()) hf

noncomputable def q57z (n : Nat) : ByteArray × Unit → Option (Bool × Unit) :=
  fun (a1, _) =>
  (bif (seq a1 (⟨#[]⟩ : ByteArray)) || (decide (((a1.size : Int) : Int) > 12)) then some (false, ())
  else
  iterN (fun rc7 => q57z_s0 n rc7 (fun (_) => some (true, ())) (fun (v6, _) => some (v6, ()))) (n) (a1, (a1.size : Int), 0, ()))

noncomputable def q46z_s0 {ρ : Type} (n : Nat) (rec : (List ByteArray) × (List ByteArray) × Int × Int × Unit → Option ρ) (kx : Unit → Option ρ) (kr : Int × Unit → Option ρ) : (List ByteArray) × (List ByteArray) × Int × Int × Unit → Option ρ :=
  fun (v2, v3, v4, v5, _) =>
  (bif decide ((v5 : Int) < v4) then
  (ix v3 v5).bind fun x6 =>
  (q57z n (x6, ())).bind fun (y7, _) =>
  (bif !y7 then kr (6, ())
  else
  (bif decide ((v5 : Int) > 0) then
  (ix v2 (IntKind.wrap .i64 (v5 - 1))).bind fun x8 =>
  (bif !(sless x8 x6) then kr (6, ())
  else rec (v2, v3, v4, IntKind.wrap .i64 (v5 + 1), ()))
  else rec (v2, v3, v4, IntKind.wrap .i64 (v5 + 1), ())))
  else kx (()))

noncomputable def F_q46z_s0 {ρ : Type} (n : Nat) (kr : Int × Unit → Option ρ) : Int → ByteArray → ((List ByteArray) × Unit) → (((List ByteArray) × Unit) → Option ρ) → Option ρ :=
  fun v5 x6 (v2, _) rec =>
  (q57z n (x6, ())).bind fun (y7, _) =>
  (bif !y7 then kr (6, ())
  else
  (bif decide ((v5 : Int) > 0) then
  (ix v2 (IntKind.wrap .i64 (v5 - 1))).bind fun x8 =>
  (bif !(sless x8 x6) then kr (6, ())
  else rec (v2, ()))
  else rec (v2, ())))

theorem R_q46z_s0 {ρ : Type} (n : Nat) (kx : Unit → Option ρ) (kr : Int × Unit → Option ρ) (l : List ByteArray) (fuel : Nat) (v2 : List ByteArray) (hl : l.length ≤ 9223372036854775807) (hf : l.length < fuel) :
    iterN (fun rc => q46z_s0 n rc kx kr) fuel (v2, l, (l.length : Int), 0, ()) = foldK (F_q46z_s0 n kr) (fun (v2, _) => kx (())) 0 l (v2, ()) :=
  range_listM l (fun i (v2, _) => (v2, l, (l.length : Int), i, ())) _ _ _ (fun rec i s => rfl) hl fuel (v2, ()) hf

noncomputable def q46z (n : Nat) : (List ByteArray) × Unit → Option (Int × Unit) :=
  fun (a1, _) =>
  (bif decide (((a1.length : Int) : Int) > 4) then some (2, ())
  else
  iterN (fun rc10 => q46z_s0 n rc10 (fun (_) => some (0, ())) (fun (v9, _) => some (v9, ()))) (n) (a1, a1, (a1.length : Int), 0, ()))

noncomputable def q54z_s1 {ρ : Type} (self_q54z : Ev.Val × Int × Unit → Option (Int × Unit)) (n : Nat) (rec : Int × (List Ev.Val) × Int × Int × (Ev.Val × Unit) × Unit → Option ρ) (kx : (Ev.Val × Unit) × Unit → Option ρ) (kr : Int × Unit → Option ρ) : Int × (List Ev.Val) × Int × Int × (Ev.Val × Unit) × Unit → Option ρ :=
  fun (v4, v5, v6, v7, o8, _) =>
  (bif decide ((v7 : Int) < v6) then
  (ix v5 v7).bind fun x9 =>
  (self_q54z ((Ev.Val.mk x9.kind x9.n x9.s x9.l), IntKind.wrap .i64 (v4 + 1), ())).bind fun (y10, _) =>
  (bif (y10 : Int) != 0 then kr (y10, ())
  else rec (v4, v5, v6, IntKind.wrap .i64 (v7 + 1), ((Ev.Val.mk o8.1.kind o8.1.n o8.1.s o8.1.l), ()), ()))
  else kx (((Ev.Val.mk o8.1.kind o8.1.n o8.1.s o8.1.l), ()), ()))

noncomputable def F_q54z_s1 {ρ : Type} (self_q54z : Ev.Val × Int × Unit → Option (Int × Unit)) (n : Nat) (kr : Int × Unit → Option ρ) : Int → Ev.Val → (Int × (Ev.Val × Unit) × Unit) → ((Int × (Ev.Val × Unit) × Unit) → Option ρ) → Option ρ :=
  fun v7 x9 (v4, o8, _) rec =>
  (self_q54z ((Ev.Val.mk x9.kind x9.n x9.s x9.l), IntKind.wrap .i64 (v4 + 1), ())).bind fun (y10, _) =>
  (bif (y10 : Int) != 0 then kr (y10, ())
  else rec (v4, ((Ev.Val.mk o8.1.kind o8.1.n o8.1.s o8.1.l), ()), ()))

theorem R_q54z_s1 {ρ : Type} (self_q54z : Ev.Val × Int × Unit → Option (Int × Unit)) (n : Nat) (kx : (Ev.Val × Unit) × Unit → Option ρ) (kr : Int × Unit → Option ρ) (l : List Ev.Val) (fuel : Nat) (v4 : Int) (o8 : Ev.Val × Unit) (hl : l.length ≤ 9223372036854775807) (hf : l.length < fuel) :
    iterN (fun rc => q54z_s1 self_q54z n rc kx kr) fuel (v4, l, (l.length : Int), 0, o8, ()) = foldK (F_q54z_s1 self_q54z n kr) (fun (v4, o8, _) => kx (((Ev.Val.mk o8.1.kind o8.1.n o8.1.s o8.1.l), ()), ())) 0 l (v4, o8, ()) :=
  range_listM l (fun i (v4, o8, _) => (v4, l, (l.length : Int), i, o8, ())) _ _ _ (fun rec i s => rfl) hl fuel (v4, o8, ()) hf

noncomputable def q54z_b (self_q54z : Ev.Val × Int × Unit → Option (Int × Unit)) (n : Nat) : Ev.Val × Int × Unit → Option (Int × Unit) :=
  fun (a1, a2, _) =>
  (bif (a1.kind : Int) == 0 then
  (bif !((((a1.n : Int) == 0) && (seq a1.s (⟨#[]⟩ : ByteArray))) && (((a1.l.length : Int) : Int) == 0)) then some (6, ())
  else some (0, ()))
  else
  (bif (a1.kind : Int) == 1 then
  (bif !(((((a1.n : Int) == 0) || ((a1.n : Int) == 1)) && (seq a1.s (⟨#[]⟩ : ByteArray))) && (((a1.l.length : Int) : Int) == 0)) then some (6, ())
  else some (0, ()))
  else
  (bif (a1.kind : Int) == 2 then
  (bif !((seq a1.s (⟨#[]⟩ : ByteArray)) && (((a1.l.length : Int) : Int) == 0)) then some (6, ())
  else some (0, ()))
  else
  (bif (a1.kind : Int) == 3 then
  (bif decide (((a1.s.size : Int) : Int) > 4000) then some (2, ())
  else
  (bif (a1.n : Int) == 0 then
  (validN (a1.s, ())).bind fun (y3, _) =>
  (bif !(y3 && (((a1.l.length : Int) : Int) == 0)) then some (6, ())
  else some (0, ()))
  else some (6, ())))
  else
  (bif (a1.kind : Int) == 4 then
  (bif (decide (((a1.l.length : Int) : Int) > 30)) || (decide ((a2 : Int) > 6)) then some (2, ())
  else
  iterN (fun rc13 => q54z_s1 self_q54z n rc13 (fun (o11, _) =>
  (bif !(((o11.1.n : Int) == 0) && (seq o11.1.s (⟨#[]⟩ : ByteArray))) then some (6, ())
  else some (0, ()))) (fun (v12, _) => some (v12, ()))) (n) (a2, a1.l, (a1.l.length : Int), 0, ((Ev.Val.mk a1.kind a1.n a1.s a1.l), ()), ()))
  else some (6, ()))))))

noncomputable def q54z : Nat → Ev.Val × Int × Unit → Option (Int × Unit)
  | 0, _ => none
  | n + 1, x => q54z_b (q54z n) n x

noncomputable def q53z (n : Nat) : Ev.Val × Unit → Option (Int × Unit) :=
  fun (a1, _) =>
  (q54z n ((Ev.Val.mk a1.kind a1.n a1.s a1.l), 1, ())).bind fun (y2, _) => some (y2, ())

noncomputable def q52z_s0 {ρ : Type} (n : Nat) (rec : (List Ev.Prp) × (List Ev.Prp) × Int × Int × Unit → Option ρ) (kx : Unit → Option ρ) (kr : Int × Unit → Option ρ) : (List Ev.Prp) × (List Ev.Prp) × Int × Int × Unit → Option ρ :=
  fun (v2, v3, v4, v5, _) =>
  (bif decide ((v5 : Int) < v4) then
  (ix v3 v5).bind fun x6 =>
  (q57z n (x6.name, ())).bind fun (y8, _) =>
  (bif !y8 then kr (6, ())
  else
  (bif decide ((v5 : Int) > 0) then
  (ix v2 (IntKind.wrap .i64 (v5 - 1))).bind fun x9 =>
  (bif (!(sless x9.name x6.name)) || ((x6.val.kind : Int) == 0) then kr (6, ())
  else
  (q53z n ((Ev.Val.mk x6.val.kind x6.val.n x6.val.s x6.val.l), ())).bind fun (y10, _) =>
  (bif (y10 : Int) != 0 then kr (y10, ())
  else rec (v2, v3, v4, IntKind.wrap .i64 (v5 + 1), ())))
  else
  (bif (x6.val.kind : Int) == 0 then kr (6, ())
  else
  (q53z n ((Ev.Val.mk x6.val.kind x6.val.n x6.val.s x6.val.l), ())).bind fun (y11, _) =>
  (bif (y11 : Int) != 0 then kr (y11, ())
  else rec (v2, v3, v4, IntKind.wrap .i64 (v5 + 1), ())))))
  else kx (()))

noncomputable def F_q52z_s0 {ρ : Type} (n : Nat) (kr : Int × Unit → Option ρ) : Int → Ev.Prp → ((List Ev.Prp) × Unit) → (((List Ev.Prp) × Unit) → Option ρ) → Option ρ :=
  fun v5 x6 (v2, _) rec =>
  (q57z n (x6.name, ())).bind fun (y8, _) =>
  (bif !y8 then kr (6, ())
  else
  (bif decide ((v5 : Int) > 0) then
  (ix v2 (IntKind.wrap .i64 (v5 - 1))).bind fun x9 =>
  (bif (!(sless x9.name x6.name)) || ((x6.val.kind : Int) == 0) then kr (6, ())
  else
  (q53z n ((Ev.Val.mk x6.val.kind x6.val.n x6.val.s x6.val.l), ())).bind fun (y10, _) =>
  (bif (y10 : Int) != 0 then kr (y10, ())
  else rec (v2, ())))
  else
  (bif (x6.val.kind : Int) == 0 then kr (6, ())
  else
  (q53z n ((Ev.Val.mk x6.val.kind x6.val.n x6.val.s x6.val.l), ())).bind fun (y11, _) =>
  (bif (y11 : Int) != 0 then kr (y11, ())
  else rec (v2, ())))))

theorem R_q52z_s0 {ρ : Type} (n : Nat) (kx : Unit → Option ρ) (kr : Int × Unit → Option ρ) (l : List Ev.Prp) (fuel : Nat) (v2 : List Ev.Prp) (hl : l.length ≤ 9223372036854775807) (hf : l.length < fuel) :
    iterN (fun rc => q52z_s0 n rc kx kr) fuel (v2, l, (l.length : Int), 0, ()) = foldK (F_q52z_s0 n kr) (fun (v2, _) => kx (())) 0 l (v2, ()) :=
  range_listM l (fun i (v2, _) => (v2, l, (l.length : Int), i, ())) _ _ _ (fun rec i s => rfl) hl fuel (v2, ()) hf

noncomputable def q52z (n : Nat) : (List Ev.Prp) × Unit → Option (Int × Unit) :=
  fun (a1, _) =>
  (bif decide (((a1.length : Int) : Int) > 6) then some (2, ())
  else
  iterN (fun rc13 => q52z_s0 n rc13 (fun (_) => some (0, ())) (fun (v12, _) => some (v12, ()))) (n) (a1, a1, (a1.length : Int), 0, ()))

noncomputable def q36z_s0 {ρ : Type} (n : Nat) (rec : Int × (List Int) × Int × Int × Unit → Option ρ) (kx : Int × Unit → Option ρ) (kr : Int × Unit → Option ρ) : Int × (List Int) × Int × Int × Unit → Option ρ :=
  fun (v2, v3, v4, v5, _) =>
  (bif decide ((v5 : Int) < v4) then
  (ix v3 v5).bind fun x6 =>
  (bif (x6 : Int) != v2 then kr (x6, ())
  else rec (v2, v3, v4, IntKind.wrap .i64 (v5 + 1), ()))
  else kx (v2, ()))

noncomputable def F_q36z_s0 {ρ : Type} (n : Nat) (kr : Int × Unit → Option ρ) : Int → Int → (Int × Unit) → ((Int × Unit) → Option ρ) → Option ρ :=
  fun v5 x6 (v2, _) rec =>
  (bif (x6 : Int) != v2 then kr (x6, ())
  else rec (v2, ()))

theorem R_q36z_s0 {ρ : Type} (n : Nat) (kx : Int × Unit → Option ρ) (kr : Int × Unit → Option ρ) (l : List Int) (fuel : Nat) (v2 : Int) (hl : l.length ≤ 9223372036854775807) (hf : l.length < fuel) :
    iterN (fun rc => q36z_s0 n rc kx kr) fuel (v2, l, (l.length : Int), 0, ()) = foldK (F_q36z_s0 n kr) (fun (v2, _) => kx (v2, ())) 0 l (v2, ()) :=
  range_listM l (fun i (v2, _) => (v2, l, (l.length : Int), i, ())) _ _ _ (fun rec i s => rfl) hl fuel (v2, ()) hf

noncomputable def q36z (n : Nat) : (List Int) × Unit → Option (Int × Unit) :=
  fun (a1, _) =>
  iterN (fun rc9 => q36z_s0 n rc9 (fun (v7, _) => some (v7, ())) (fun (v8, _) => some (v8, ()))) (n) (0, a1, (a1.length : Int), 0, ())

noncomputable def q43z : Int × Unit → Option (Bool × Unit) :=
  fun (a1, _) => some ((a1 : Int) != a1, ())

noncomputable def q39z : Int × Int × Unit → Option (Int × Unit) :=
  fun (a1, a2, _) =>
  (q43z (a1, ())).bind fun (y3, _) =>
  (q43z (a2, ())).bind fun (y4, _) =>
  (bif y3 then
  (bif y4 then some (0, ())
  else some ((-1), ()))
  else
  (bif y4 then some (1, ())
  else
  (bif decide ((a1 : Int) < a2) then some ((-1), ())
  else
  (bif decide ((a1 : Int) > a2) then some (1, ())
  else some (0, ())))))

noncomputable def q45z : Ev.Node × Int × Unit → Option (Int × Unit) :=
  fun (a1, a2, _) =>
  (q39z (a1.id, a2, ())).bind fun (y3, _) => some (y3, ())

noncomputable def q3z_s0 {ρ : Type} (n : Nat) (rec : (List Ev.Node) × Int × Int × Int × Int × Unit → Option ρ) (kx : (List Ev.Node) × Int × Int × Int × Unit → Option ρ) (kr : Unit → Option ρ) : (List Ev.Node) × Int × Int × Int × Int × Unit → Option ρ :=
  fun (v3, v4, v5, v6, v7, _) =>
  (bif decide ((v6 : Int) < v7) then
  (ix v3 (IntKind.wrap .i64 (bshr .u64 (IntKind.wrap .u64 (IntKind.wrap .i64 (v6 + v7))) 1))).bind fun x8 =>
  (q45z ((Ev.Node.mk x8.id x8.labels x8.props), v4, ())).bind fun (y9, _) =>
  (bif decide ((y9 : Int) < 0) then rec (v3, v4, v5, IntKind.wrap .i64 ((IntKind.wrap .i64 (bshr .u64 (IntKind.wrap .u64 (IntKind.wrap .i64 (v6 + v7))) 1)) + 1), v7, ())
  else rec (v3, v4, v5, v6, IntKind.wrap .i64 (bshr .u64 (IntKind.wrap .u64 (IntKind.wrap .i64 (v6 + v7))) 1), ()))
  else kx (v3, v4, v5, v6, ()))

noncomputable def q3z (n : Nat) : (List Ev.Node) × Int × Unit → Option (Int × Bool × Unit) :=
  fun (a1, a2, _) =>
  iterN (fun rc16 => q3z_s0 n rc16 (fun (v10, v11, v12, v13, _) =>
  (bif decide ((v13 : Int) < v12) then
  (ix v10 v13).bind fun x14 =>
  (q45z ((Ev.Node.mk x14.id x14.labels x14.props), v11, ())).bind fun (y15, _) => some (v13, (y15 : Int) == 0, ())
  else some (v13, false, ()))) (fun (_) => none)) (n) (a1, a2, (a1.length : Int), 0, (a1.length : Int), ())

noncomputable def q56z (n : Nat) : Ev.Graph × Int × Unit → Option (Int × Unit) :=
  fun (a1, a2, _) =>
  (q3z n (a1.nodes, a2, ())).bind fun (y3, y4, _) =>
  (bif !y4 then some ((-1), ())
  else some (y3, ()))

noncomputable def q51z_s0 {ρ : Type} (n : Nat) (rec : Int × (List Ev.Node) × Int × Int × (Ev.Graph × Unit) × Unit → Option ρ) (kx : Int × (Ev.Graph × Unit) × Unit → Option ρ) (kr : Int × Unit → Option ρ) : Int × (List Ev.Node) × Int × Int × (Ev.Graph × Unit) × Unit → Option ρ :=
  fun (v2, v3, v4, v5, o6, _) =>
  (bif decide ((v5 : Int) < v4) then
  (ix v3 v5).bind fun x7 =>
  (bif decide ((x7.id : Int) ≤ v2) then kr (6, ())
  else
  (q46z n (x7.labels, ())).bind fun (y8, _) =>
  (q52z n (x7.props, ())).bind fun (y9, _) =>
  (q36z n (([y8, y9] : List Int), ())).bind fun (y10, _) =>
  (bif (y10 : Int) != 0 then kr (y10, ())
  else rec (x7.id, v3, v4, IntKind.wrap .i64 (v5 + 1), ((Ev.Graph.mk o6.1.nodes o6.1.edges o6.1.next), ()), ())))
  else kx (v2, ((Ev.Graph.mk o6.1.nodes o6.1.edges o6.1.next), ()), ()))

noncomputable def q51z_s2 {ρ : Type} (n : Nat) (rec : Int × Int × (List Ev.Edg) × Int × Int × (Ev.Graph × Unit) × Unit → Option ρ) (kx : Int × Int × (Ev.Graph × Unit) × Unit → Option ρ) (kr : Int × Unit → Option ρ) : Int × Int × (List Ev.Edg) × Int × Int × (Ev.Graph × Unit) × Unit → Option ρ :=
  fun (v14, v15, v16, v17, v18, o19, _) =>
  (bif decide ((v18 : Int) < v17) then
  (ix v16 v18).bind fun x20 =>
  (bif decide ((x20.id : Int) ≤ v14) then kr (6, ())
  else
  (q56z n ((Ev.Graph.mk o19.1.nodes o19.1.edges o19.1.next), x20.id, ())).bind fun (y21, _) =>
  (bif decide ((y21 : Int) ≥ 0) then kr (6, ())
  else
  (q57z n (x20.type, ())).bind fun (y22, _) =>
  (bif !y22 then kr (6, ())
  else
  (q56z n ((Ev.Graph.mk o19.1.nodes o19.1.edges o19.1.next), x20.src, ())).bind fun (y23, _) =>
  (bif decide ((y23 : Int) < 0) then kr (5, ())
  else
  (q56z n ((Ev.Graph.mk o19.1.nodes o19.1.edges o19.1.next), x20.dst, ())).bind fun (y24, _) =>
  (bif decide ((y24 : Int) < 0) then kr (5, ())
  else
  (q52z n (x20.props, ())).bind fun (y25, _) =>
  (bif (y25 : Int) != 0 then kr (y25, ())
  else rec (x20.id, v15, v16, v17, IntKind.wrap .i64 (v18 + 1), ((Ev.Graph.mk o19.1.nodes o19.1.edges o19.1.next), ()), ())))))))
  else kx (v14, v15, ((Ev.Graph.mk o19.1.nodes o19.1.edges o19.1.next), ()), ()))

noncomputable def F_q51z_s0 {ρ : Type} (n : Nat) (kr : Int × Unit → Option ρ) : Int → Ev.Node → (Int × (Ev.Graph × Unit) × Unit) → ((Int × (Ev.Graph × Unit) × Unit) → Option ρ) → Option ρ :=
  fun v5 x7 (v2, o6, _) rec =>
  (bif decide ((x7.id : Int) ≤ v2) then kr (6, ())
  else
  (q46z n (x7.labels, ())).bind fun (y8, _) =>
  (q52z n (x7.props, ())).bind fun (y9, _) =>
  (q36z n (([y8, y9] : List Int), ())).bind fun (y10, _) =>
  (bif (y10 : Int) != 0 then kr (y10, ())
  else rec (x7.id, ((Ev.Graph.mk o6.1.nodes o6.1.edges o6.1.next), ()), ())))

theorem R_q51z_s0 {ρ : Type} (n : Nat) (kx : Int × (Ev.Graph × Unit) × Unit → Option ρ) (kr : Int × Unit → Option ρ) (l : List Ev.Node) (fuel : Nat) (v2 : Int) (o6 : Ev.Graph × Unit) (hl : l.length ≤ 9223372036854775807) (hf : l.length < fuel) :
    iterN (fun rc => q51z_s0 n rc kx kr) fuel (v2, l, (l.length : Int), 0, o6, ()) = foldK (F_q51z_s0 n kr) (fun (v2, o6, _) => kx (v2, ((Ev.Graph.mk o6.1.nodes o6.1.edges o6.1.next), ()), ())) 0 l (v2, o6, ()) :=
  range_listM l (fun i (v2, o6, _) => (v2, l, (l.length : Int), i, o6, ())) _ _ _ (fun rec i s => rfl) hl fuel (v2, o6, ()) hf

noncomputable def F_q51z_s2 {ρ : Type} (n : Nat) (kr : Int × Unit → Option ρ) : Int → Ev.Edg → (Int × Int × (Ev.Graph × Unit) × Unit) → ((Int × Int × (Ev.Graph × Unit) × Unit) → Option ρ) → Option ρ :=
  fun v18 x20 (v14, v15, o19, _) rec =>
  (bif decide ((x20.id : Int) ≤ v14) then kr (6, ())
  else
  (q56z n ((Ev.Graph.mk o19.1.nodes o19.1.edges o19.1.next), x20.id, ())).bind fun (y21, _) =>
  (bif decide ((y21 : Int) ≥ 0) then kr (6, ())
  else
  (q57z n (x20.type, ())).bind fun (y22, _) =>
  (bif !y22 then kr (6, ())
  else
  (q56z n ((Ev.Graph.mk o19.1.nodes o19.1.edges o19.1.next), x20.src, ())).bind fun (y23, _) =>
  (bif decide ((y23 : Int) < 0) then kr (5, ())
  else
  (q56z n ((Ev.Graph.mk o19.1.nodes o19.1.edges o19.1.next), x20.dst, ())).bind fun (y24, _) =>
  (bif decide ((y24 : Int) < 0) then kr (5, ())
  else
  (q52z n (x20.props, ())).bind fun (y25, _) =>
  (bif (y25 : Int) != 0 then kr (y25, ())
  else rec (x20.id, v15, ((Ev.Graph.mk o19.1.nodes o19.1.edges o19.1.next), ()), ())))))))

theorem R_q51z_s2 {ρ : Type} (n : Nat) (kx : Int × Int × (Ev.Graph × Unit) × Unit → Option ρ) (kr : Int × Unit → Option ρ) (l : List Ev.Edg) (fuel : Nat) (v14 : Int) (v15 : Int) (o19 : Ev.Graph × Unit) (hl : l.length ≤ 9223372036854775807) (hf : l.length < fuel) :
    iterN (fun rc => q51z_s2 n rc kx kr) fuel (v14, v15, l, (l.length : Int), 0, o19, ()) = foldK (F_q51z_s2 n kr) (fun (v14, v15, o19, _) => kx (v14, v15, ((Ev.Graph.mk o19.1.nodes o19.1.edges o19.1.next), ()), ())) 0 l (v14, v15, o19, ()) :=
  range_listM l (fun i (v14, v15, o19, _) => (v14, v15, l, (l.length : Int), i, o19, ())) _ _ _ (fun rec i s => rfl) hl fuel (v14, v15, o19, ()) hf

noncomputable def q51z (n : Nat) : Ev.Graph × Unit → Option (Int × Unit) :=
  fun (a1, _) =>
  (bif (decide (((a1.nodes.length : Int) : Int) > 40)) || (decide (((a1.edges.length : Int) : Int) > 60)) then some (2, ())
  else
  iterN (fun rc31 => q51z_s0 n rc31 (fun (v11, o12, _) =>
  iterN (fun rc30 => q51z_s2 n rc30 (fun (v26, v27, o28, _) =>
  (bif (decide ((o28.1.next : Int) ≤ (if v26 > v27 then v26 else v27))) || (decide ((o28.1.next : Int) > 1099511627776)) then some (9, ())
  else some (0, ()))) (fun (v29, _) => some (v29, ()))) (n) (0, v11, o12.1.edges, (o12.1.edges.length : Int), 0, ((Ev.Graph.mk o12.1.nodes o12.1.edges o12.1.next), ()), ())) (fun (v13, _) => some (v13, ()))) (n) (0, a1.nodes, (a1.nodes.length : Int), 0, ((Ev.Graph.mk a1.nodes a1.edges a1.next), ()), ()))

noncomputable def q25z_s0 {ρ : Type} (n : Nat) (rec : Int × Unit × (List Int) × Unit → Option ρ) (kx : Int × Unit × (List Int) × Unit → Option ρ) (kr : Unit → Option ρ) : Int × Unit × (List Int) × Unit → Option ρ :=
  fun (v4, o5, o6, _) =>
  (bif decide ((v4 : Int) ≥ 128) then
  ck (room (o6 ++ ([bor .u8 (IntKind.wrap .u8 (v4)) 128] : List Int)).length 1) (rec (bshr .u64 v4 7, (()), o6 ++ ([bor .u8 (IntKind.wrap .u8 (v4)) 128] : List Int), ()))
  else kx (v4, (()), o6, ()))

noncomputable def q25z (n : Nat) : Int × Unit × (List Int) × Unit → Option (Unit × (List Int) × Unit) :=
  fun (a1, o2, o3, _) =>
  iterN (fun rc10 => q25z_s0 n rc10 (fun (v7, o8, o9, _) =>
  ck (room (o9 ++ ([IntKind.wrap .u8 (v7)] : List Int)).length 1) (some ((()), o9 ++ ([IntKind.wrap .u8 (v7)] : List Int), ()))) (fun (_) => none)) (n) (bxor .u64 (bshl .u64 (IntKind.wrap .u64 (a1)) 1) (IntKind.wrap .u64 (bshr .i64 a1 63)), (()), o3, ())

noncomputable def q35z (n : Nat) : ByteArray × Unit × (List Int) × Unit → Option (Unit × (List Int) × Unit) :=
  fun (a1, o2, o3, _) =>
  (q25z n ((a1.size : Int), (()), o3, ())).bind fun (o4, o5, _) =>
  ck (room (o5 ++ (bytesI a1)).length 1) (some ((()), o5 ++ (bytesI a1), ()))

noncomputable def q8z_s0 {ρ : Type} (n : Nat) (rec : (List ByteArray) × Int × Int × Unit × (List Int) × Unit → Option ρ) (kx : Unit × (List Int) × Unit → Option ρ) (kr : Unit → Option ρ) : (List ByteArray) × Int × Int × Unit × (List Int) × Unit → Option ρ :=
  fun (v6, v7, v8, o9, o10, _) =>
  (bif decide ((v8 : Int) < v7) then
  (ix v6 v8).bind fun x11 =>
  (q35z n (x11, (()), o10, ())).bind fun (o12, o13, _) => rec (v6, v7, IntKind.wrap .i64 (v8 + 1), (()), o13, ())
  else kx ((()), o10, ()))

noncomputable def F_q8z_s0 {ρ : Type} (n : Nat) (kr : Unit → Option ρ) : Int → ByteArray → (Unit × (List Int) × Unit) → ((Unit × (List Int) × Unit) → Option ρ) → Option ρ :=
  fun v8 x11 (o9, o10, _) rec =>
  (q35z n (x11, (()), o10, ())).bind fun (o12, o13, _) => rec ((()), o13, ())

theorem R_q8z_s0 {ρ : Type} (n : Nat) (kx : Unit × (List Int) × Unit → Option ρ) (kr : Unit → Option ρ) (l : List ByteArray) (fuel : Nat) (o9 : Unit) (o10 : List Int) (hl : l.length ≤ 9223372036854775807) (hf : l.length < fuel) :
    iterN (fun rc => q8z_s0 n rc kx kr) fuel (l, (l.length : Int), 0, o9, o10, ()) = foldK (F_q8z_s0 n kr) (fun (o9, o10, _) => kx ((()), o10, ())) 0 l (o9, o10, ()) :=
  range_listM l (fun i (o9, o10, _) => (l, (l.length : Int), i, o9, o10, ())) _ _ _ (fun rec i s => rfl) hl fuel (o9, o10, ()) hf

noncomputable def q8z (n : Nat) : (List ByteArray) × Unit × (List Int) × Unit → Option (Unit × (List Int) × Unit) :=
  fun (a1, o2, o3, _) =>
  (q25z n ((a1.length : Int), (()), o3, ())).bind fun (o4, o5, _) =>
  iterN (fun rc16 => q8z_s0 n rc16 (fun (o14, o15, _) => some ((()), o15, ())) (fun (_) => none)) (n) (a1, (a1.length : Int), 0, (()), o5, ())

noncomputable def q50z_s0 {ρ : Type} (n : Nat) (rec : Int × Int × (List Int) × Unit → Option ρ) (kx : (List Int) × Unit → Option ρ) (kr : Unit → Option ρ) : Int × Int × (List Int) × Unit → Option ρ :=
  fun (v4, v5, o6, _) =>
  (bif decide ((v5 : Int) ≥ 0) then
  (shamt (IntKind.wrap .i64 (8 * v5))).bind fun q7 =>
  ck (room (o6 ++ ([IntKind.wrap .u8 (bshr .u64 v4 q7)] : List Int)).length 1) (rec (v4, IntKind.wrap .i64 (v5 - 1), o6 ++ ([IntKind.wrap .u8 (bshr .u64 v4 q7)] : List Int), ()))
  else kx (o6, ()))

noncomputable def q50z (n : Nat) : Int × Int × (List Int) × Unit → Option ((List Int) × Unit) :=
  fun (a1, a2, o3, _) =>
  iterN (fun rc9 => q50z_s0 n rc9 (fun (o8, _) => some (o8, ())) (fun (_) => none)) (n) (a1, IntKind.wrap .i64 (a2 - 1), o3, ())

noncomputable def code_Put_s1 {ρ : Type} (self_code_Put : Ev.Val × (List Int) × Unit → Option ((List Int) × Unit)) (n : Nat) (rec : (List Ev.Val) × Int × Int × (List Int) × Unit → Option ρ) (kx : (List Int) × Unit → Option ρ) (kr : Unit → Option ρ) : (List Ev.Val) × Int × Int × (List Int) × Unit → Option ρ :=
  fun (v5, v6, v7, o8, _) =>
  (bif decide ((v7 : Int) < v6) then
  (ix v5 v7).bind fun x9 =>
  (self_code_Put ((Ev.Val.mk x9.kind x9.n x9.s x9.l), o8, ())).bind fun (o10, _) => rec (v5, v6, IntKind.wrap .i64 (v7 + 1), o10, ())
  else kx (o8, ()))

noncomputable def F_code_Put_s1 {ρ : Type} (self_code_Put : Ev.Val × (List Int) × Unit → Option ((List Int) × Unit)) (n : Nat) (kr : Unit → Option ρ) : Int → Ev.Val → ((List Int) × Unit) → (((List Int) × Unit) → Option ρ) → Option ρ :=
  fun v7 x9 (o8, _) rec =>
  (self_code_Put ((Ev.Val.mk x9.kind x9.n x9.s x9.l), o8, ())).bind fun (o10, _) => rec (o10, ())

theorem R_code_Put_s1 {ρ : Type} (self_code_Put : Ev.Val × (List Int) × Unit → Option ((List Int) × Unit)) (n : Nat) (kx : (List Int) × Unit → Option ρ) (kr : Unit → Option ρ) (l : List Ev.Val) (fuel : Nat) (o8 : List Int) (hl : l.length ≤ 9223372036854775807) (hf : l.length < fuel) :
    iterN (fun rc => code_Put_s1 self_code_Put n rc kx kr) fuel (l, (l.length : Int), 0, o8, ()) = foldK (F_code_Put_s1 self_code_Put n kr) (fun (o8, _) => kx (o8, ())) 0 l (o8, ()) :=
  range_listM l (fun i (o8, _) => (l, (l.length : Int), i, o8, ())) _ _ _ (fun rec i s => rfl) hl fuel (o8, ()) hf

noncomputable def code_Put_b (self_code_Put : Ev.Val × (List Int) × Unit → Option ((List Int) × Unit)) (n : Nat) : Ev.Val × (List Int) × Unit → Option ((List Int) × Unit) :=
  fun (a1, o2, _) =>
  ck (room (o2 ++ ([IntKind.wrap .u8 (a1.kind)] : List Int)).length 1) (
  (bif (a1.kind : Int) == 1 then
  (bif (a1.kind : Int) == 1 then
  (q50z n (bxor .u64 (IntKind.wrap .u64 (a1.n)) 9223372036854775808, 8, o2 ++ ([IntKind.wrap .u8 (a1.kind)] : List Int), ())).bind fun (o3, _) => some (o3, ())
  else
  (bif (a1.kind : Int) == 3 then
  (q50z n (IntKind.wrap .u64 ((a1.s.size : Int)), 2, o2 ++ ([IntKind.wrap .u8 (a1.kind)] : List Int), ())).bind fun (o4, _) =>
  ck (room (o4 ++ (bytesI a1.s)).length 1) (some (o4 ++ (bytesI a1.s), ()))
  else
  (bif (a1.kind : Int) == 4 then
  ck (room ((o2 ++ ([IntKind.wrap .u8 (a1.kind)] : List Int)) ++ ([IntKind.wrap .u8 ((a1.l.length : Int))] : List Int)).length 1) (
  iterN (fun rc12 => code_Put_s1 self_code_Put n rc12 (fun (o11, _) => some (o11, ())) (fun (_) => none)) (n) (a1.l, (a1.l.length : Int), 0, (o2 ++ ([IntKind.wrap .u8 (a1.kind)] : List Int)) ++ ([IntKind.wrap .u8 ((a1.l.length : Int))] : List Int), ()))
  else some (o2 ++ ([IntKind.wrap .u8 (a1.kind)] : List Int), ()))))
  else
  (bif (a1.kind : Int) == 2 then
  (q50z n (bxor .u64 (IntKind.wrap .u64 (a1.n)) 9223372036854775808, 8, o2 ++ ([IntKind.wrap .u8 (a1.kind)] : List Int), ())).bind fun (o13, _) => some (o13, ())
  else
  (bif (a1.kind : Int) == 3 then
  (q50z n (IntKind.wrap .u64 ((a1.s.size : Int)), 2, o2 ++ ([IntKind.wrap .u8 (a1.kind)] : List Int), ())).bind fun (o14, _) =>
  ck (room (o14 ++ (bytesI a1.s)).length 1) (some (o14 ++ (bytesI a1.s), ()))
  else
  (bif (a1.kind : Int) == 4 then
  ck (room ((o2 ++ ([IntKind.wrap .u8 (a1.kind)] : List Int)) ++ ([IntKind.wrap .u8 ((a1.l.length : Int))] : List Int)).length 1) (
  iterN (fun rc16 => code_Put_s1 self_code_Put n rc16 (fun (o15, _) => some (o15, ())) (fun (_) => none)) (n) (a1.l, (a1.l.length : Int), 0, (o2 ++ ([IntKind.wrap .u8 (a1.kind)] : List Int)) ++ ([IntKind.wrap .u8 ((a1.l.length : Int))] : List Int), ()))
  else some (o2 ++ ([IntKind.wrap .u8 (a1.kind)] : List Int), ()))))))

noncomputable def code_Put : Nat → Ev.Val × (List Int) × Unit → Option ((List Int) × Unit)
  | 0, _ => none
  | n + 1, x => code_Put_b (code_Put n) n x

noncomputable def q31z (n : Nat) : Ev.Val × Unit × (List Int) × Unit → Option (Unit × (List Int) × Unit) :=
  fun (a1, o2, o3, _) =>
  (code_Put n ((Ev.Val.mk a1.kind a1.n a1.s a1.l), o3, ())).bind fun (o4, _) => some ((()), o4, ())

noncomputable def q21z (n : Nat) : Ev.Prp × Unit × Unit × (List Int) × Unit → Option (Unit × Unit × (List Int) × Unit) :=
  fun (a1, o2, o3, o4, _) =>
  (q35z n (a1.name, (()), o4, ())).bind fun (o5, o6, _) =>
  (q31z n ((Ev.Val.mk a1.val.kind a1.val.n a1.val.s a1.val.l), (()), o6, ())).bind fun (o7, o8, _) => some ((()), (()), o8, ())

noncomputable def q4z_s0 {ρ : Type} (n : Nat) (rec : (List Ev.Prp) × Int × Int × Unit × (List Int) × Unit × Unit → Option ρ) (kx : Unit × (List Int) × Unit × Unit → Option ρ) (kr : Unit → Option ρ) : (List Ev.Prp) × Int × Int × Unit × (List Int) × Unit × Unit → Option ρ :=
  fun (v7, v8, v9, o10, o11, o12, _) =>
  (bif decide ((v9 : Int) < v8) then
  (ix v7 v9).bind fun x13 =>
  (q21z n ((Ev.Prp.mk x13.name (Ev.Val.mk x13.val.kind x13.val.n x13.val.s x13.val.l)), (()), (()), o11, ())).bind fun (o14, o15, o16, _) => rec (v7, v8, IntKind.wrap .i64 (v9 + 1), (()), o16, (()), ())
  else kx ((()), o11, (()), ()))

noncomputable def F_q4z_s0 {ρ : Type} (n : Nat) (kr : Unit → Option ρ) : Int → Ev.Prp → (Unit × (List Int) × Unit × Unit) → ((Unit × (List Int) × Unit × Unit) → Option ρ) → Option ρ :=
  fun v9 x13 (o10, o11, o12, _) rec =>
  (q21z n ((Ev.Prp.mk x13.name (Ev.Val.mk x13.val.kind x13.val.n x13.val.s x13.val.l)), (()), (()), o11, ())).bind fun (o14, o15, o16, _) => rec ((()), o16, (()), ())

theorem R_q4z_s0 {ρ : Type} (n : Nat) (kx : Unit × (List Int) × Unit × Unit → Option ρ) (kr : Unit → Option ρ) (l : List Ev.Prp) (fuel : Nat) (o10 : Unit) (o11 : List Int) (o12 : Unit) (hl : l.length ≤ 9223372036854775807) (hf : l.length < fuel) :
    iterN (fun rc => q4z_s0 n rc kx kr) fuel (l, (l.length : Int), 0, o10, o11, o12, ()) = foldK (F_q4z_s0 n kr) (fun (o10, o11, o12, _) => kx ((()), o11, (()), ())) 0 l (o10, o11, o12, ()) :=
  range_listM l (fun i (o10, o11, o12, _) => (l, (l.length : Int), i, o10, o11, o12, ())) _ _ _ (fun rec i s => rfl) hl fuel (o10, o11, o12, ()) hf

noncomputable def q4z (n : Nat) : (List Ev.Prp) × Unit × (List Int) × Unit × Unit → Option (Unit × (List Int) × Unit × Unit) :=
  fun (a1, o2, o3, o4, _) =>
  (q25z n ((a1.length : Int), (()), o3, ())).bind fun (o5, o6, _) =>
  iterN (fun rc20 => q4z_s0 n rc20 (fun (o17, o18, o19, _) => some ((()), o18, (()), ())) (fun (_) => none)) (n) (a1, (a1.length : Int), 0, (()), o6, (()), ())

noncomputable def q30z (n : Nat) : (List Ev.Prp) × Unit × (List Int) × Unit → Option (Unit × (List Int) × Unit) :=
  fun (a1, o2, o3, _) =>
  (q4z n (a1, (()), o3, (()), ())).bind fun (o4, o5, o6, _) => some ((()), o5, ())

noncomputable def q47z (n : Nat) : Ev.Node × Unit × Unit × (List Int) × Unit → Option (Unit × Unit × (List Int) × Unit) :=
  fun (a1, o2, o3, o4, _) =>
  (q25z n (a1.id, (()), o4, ())).bind fun (o5, o6, _) =>
  (q8z n (a1.labels, (()), o6, ())).bind fun (o7, o8, _) =>
  (q30z n (a1.props, (()), o8, ())).bind fun (o9, o10, _) => some ((()), (()), o10, ())

noncomputable def q12z_s0 {ρ : Type} (n : Nat) (rec : (List Ev.Node) × Int × Int × Unit × (List Int) × Unit × Unit → Option ρ) (kx : Unit × (List Int) × Unit × Unit → Option ρ) (kr : Unit → Option ρ) : (List Ev.Node) × Int × Int × Unit × (List Int) × Unit × Unit → Option ρ :=
  fun (v7, v8, v9, o10, o11, o12, _) =>
  (bif decide ((v9 : Int) < v8) then
  (ix v7 v9).bind fun x13 =>
  (q47z n ((Ev.Node.mk x13.id x13.labels x13.props), (()), (()), o11, ())).bind fun (o14, o15, o16, _) => rec (v7, v8, IntKind.wrap .i64 (v9 + 1), (()), o16, (()), ())
  else kx ((()), o11, (()), ()))

noncomputable def F_q12z_s0 {ρ : Type} (n : Nat) (kr : Unit → Option ρ) : Int → Ev.Node → (Unit × (List Int) × Unit × Unit) → ((Unit × (List Int) × Unit × Unit) → Option ρ) → Option ρ :=
  fun v9 x13 (o10, o11, o12, _) rec =>
  (q47z n ((Ev.Node.mk x13.id x13.labels x13.props), (()), (()), o11, ())).bind fun (o14, o15, o16, _) => rec ((()), o16, (()), ())

theorem R_q12z_s0 {ρ : Type} (n : Nat) (kx : Unit × (List Int) × Unit × Unit → Option ρ) (kr : Unit → Option ρ) (l : List Ev.Node) (fuel : Nat) (o10 : Unit) (o11 : List Int) (o12 : Unit) (hl : l.length ≤ 9223372036854775807) (hf : l.length < fuel) :
    iterN (fun rc => q12z_s0 n rc kx kr) fuel (l, (l.length : Int), 0, o10, o11, o12, ()) = foldK (F_q12z_s0 n kr) (fun (o10, o11, o12, _) => kx ((()), o11, (()), ())) 0 l (o10, o11, o12, ()) :=
  range_listM l (fun i (o10, o11, o12, _) => (l, (l.length : Int), i, o10, o11, o12, ())) _ _ _ (fun rec i s => rfl) hl fuel (o10, o11, o12, ()) hf

noncomputable def q12z (n : Nat) : (List Ev.Node) × Unit × (List Int) × Unit × Unit → Option (Unit × (List Int) × Unit × Unit) :=
  fun (a1, o2, o3, o4, _) =>
  (q25z n ((a1.length : Int), (()), o3, ())).bind fun (o5, o6, _) =>
  iterN (fun rc20 => q12z_s0 n rc20 (fun (o17, o18, o19, _) => some ((()), o18, (()), ())) (fun (_) => none)) (n) (a1, (a1.length : Int), 0, (()), o6, (()), ())

noncomputable def q48z (n : Nat) : Ev.Edg × Unit × Unit × (List Int) × Unit → Option (Unit × Unit × (List Int) × Unit) :=
  fun (a1, o2, o3, o4, _) =>
  (q25z n (a1.id, (()), o4, ())).bind fun (o5, o6, _) =>
  (q25z n (a1.src, (()), o6, ())).bind fun (o7, o8, _) =>
  (q25z n (a1.dst, (()), o8, ())).bind fun (o9, o10, _) =>
  (q35z n (a1.type, (()), o10, ())).bind fun (o11, o12, _) =>
  (q30z n (a1.props, (()), o12, ())).bind fun (o13, o14, _) => some ((()), (()), o14, ())

noncomputable def q11z_s0 {ρ : Type} (n : Nat) (rec : (List Ev.Edg) × Int × Int × Unit × (List Int) × Unit × Unit → Option ρ) (kx : Unit × (List Int) × Unit × Unit → Option ρ) (kr : Unit → Option ρ) : (List Ev.Edg) × Int × Int × Unit × (List Int) × Unit × Unit → Option ρ :=
  fun (v7, v8, v9, o10, o11, o12, _) =>
  (bif decide ((v9 : Int) < v8) then
  (ix v7 v9).bind fun x13 =>
  (q48z n ((Ev.Edg.mk x13.id x13.src x13.dst x13.type x13.props), (()), (()), o11, ())).bind fun (o14, o15, o16, _) => rec (v7, v8, IntKind.wrap .i64 (v9 + 1), (()), o16, (()), ())
  else kx ((()), o11, (()), ()))

noncomputable def F_q11z_s0 {ρ : Type} (n : Nat) (kr : Unit → Option ρ) : Int → Ev.Edg → (Unit × (List Int) × Unit × Unit) → ((Unit × (List Int) × Unit × Unit) → Option ρ) → Option ρ :=
  fun v9 x13 (o10, o11, o12, _) rec =>
  (q48z n ((Ev.Edg.mk x13.id x13.src x13.dst x13.type x13.props), (()), (()), o11, ())).bind fun (o14, o15, o16, _) => rec ((()), o16, (()), ())

theorem R_q11z_s0 {ρ : Type} (n : Nat) (kx : Unit × (List Int) × Unit × Unit → Option ρ) (kr : Unit → Option ρ) (l : List Ev.Edg) (fuel : Nat) (o10 : Unit) (o11 : List Int) (o12 : Unit) (hl : l.length ≤ 9223372036854775807) (hf : l.length < fuel) :
    iterN (fun rc => q11z_s0 n rc kx kr) fuel (l, (l.length : Int), 0, o10, o11, o12, ()) = foldK (F_q11z_s0 n kr) (fun (o10, o11, o12, _) => kx ((()), o11, (()), ())) 0 l (o10, o11, o12, ()) :=
  range_listM l (fun i (o10, o11, o12, _) => (l, (l.length : Int), i, o10, o11, o12, ())) _ _ _ (fun rec i s => rfl) hl fuel (o10, o11, o12, ()) hf

noncomputable def q11z (n : Nat) : (List Ev.Edg) × Unit × (List Int) × Unit × Unit → Option (Unit × (List Int) × Unit × Unit) :=
  fun (a1, o2, o3, o4, _) =>
  (q25z n ((a1.length : Int), (()), o3, ())).bind fun (o5, o6, _) =>
  iterN (fun rc20 => q11z_s0 n rc20 (fun (o17, o18, o19, _) => some ((()), o18, (()), ())) (fun (_) => none)) (n) (a1, (a1.length : Int), 0, (()), o6, (()), ())

noncomputable def q58z (n : Nat) : Ev.Graph × Unit → Option (ByteArray × Int × Unit) :=
  fun (a1, _) =>
  (q51z n ((Ev.Graph.mk a1.nodes a1.edges a1.next), ())).bind fun (y2, _) =>
  (bif (y2 : Int) != 0 then some ((⟨#[]⟩ : ByteArray), y2, ())
  else
  (q25z n (a1.next, (()), ([] : List Int), ())).bind fun (o3, o4, _) =>
  (q12z n (a1.nodes, (()), o4, (()), ())).bind fun (o5, o6, o7, _) =>
  (q11z n (a1.edges, (()), o6, (()), ())).bind fun (o8, o9, o10, _) =>
  (str? o9).bind fun s11 => some (s11, 0, ()))

noncomputable def q40z : Int × Unit → Option (Ev.Val × Unit) :=
  fun (a1, _) => some ((Ev.Val.mk 2 a1 (⟨#[]⟩ : ByteArray) ([] : List Ev.Val)), ())

noncomputable def q32z : Unit → Option (Ev.Graph × Unit) :=
  fun (_) =>
  (q40z (5, ())).bind fun (y1, _) => some ((Ev.Graph.mk ([(Ev.Node.mk 1 ([(⟨#[65]⟩ : ByteArray)] : List ByteArray) ([(Ev.Prp.mk (⟨#[110]⟩ : ByteArray) (Ev.Val.mk y1.kind y1.n y1.s y1.l))] : List Ev.Prp)), (Ev.Node.mk 2 ([] : List ByteArray) ([] : List Ev.Prp))] : List Ev.Node) ([(Ev.Edg.mk 3 1 2 (⟨#[75]⟩ : ByteArray) ([] : List Ev.Prp))] : List Ev.Edg) 4), ())

noncomputable def q24z_s0 {ρ : Type} (n : Nat) (rec : Int × Int × ((List Int) × Unit) × Unit → Option ρ) (kx : ((List Int) × Unit) × Unit → Option ρ) (kr : Int × ((List Int) × Unit) × Unit → Option ρ) : Int × Int × ((List Int) × Unit) × Unit → Option ρ :=
  fun (v2, v3, o4, _) =>
  (bif decide ((v3 : Int) < 10) then
  (bif (v3 : Int) == (o4.1.length : Int) then kx ((o4.1, ()), ())
  else
  (ix o4.1 v3).bind fun x5 =>
  (shamt (IntKind.wrap .i64 (7 * v3))).bind fun q6 =>
  (ix o4.1 v3).bind fun x7 =>
  (bif decide ((x7 : Int) < 128) then
  (lsl o4.1 (IntKind.wrap .i64 (v3 + 1)) (o4.1.length : Int)).bind fun l8 => kr (bxor .i64 (IntKind.wrap .i64 (bshr .u64 (bor .u64 v2 (bshl .u64 (IntKind.wrap .u64 (band .u8 x5 127)) q6)) 1)) (IntKind.wrap .i64 (0 - (IntKind.wrap .i64 (band .u64 (bor .u64 v2 (bshl .u64 (IntKind.wrap .u64 (band .u8 x5 127)) q6)) 1)))), (l8, ()), ())
  else rec (bor .u64 v2 (bshl .u64 (IntKind.wrap .u64 (band .u8 x5 127)) q6), IntKind.wrap .i64 (v3 + 1), (o4.1, ()), ())))
  else kx ((o4.1, ()), ()))

noncomputable def q24z (n : Nat) : ((List Int) × Unit) × Unit → Option (Int × ((List Int) × Unit) × Unit) :=
  fun (o1, _) =>
  iterN (fun rc12 => q24z_s0 n rc12 (fun (o9, _) => none) (fun (v10, o11, _) => some (v10, (o11.1, ()), ()))) (n) (0, 0, (o1.1, ()), ())

noncomputable def q34z (n : Nat) : ((List Int) × Unit) × Unit → Option (ByteArray × ((List Int) × Unit) × Unit) :=
  fun (o1, _) =>
  (q24z n ((o1.1, ()), ())).bind fun (y2, o3, _) =>
  (bif (decide ((y2 : Int) < 0)) || (decide ((y2 : Int) > (o3.1.length : Int))) then none
  else
  (lsl o3.1 0 y2).bind fun l4 =>
  (str? l4).bind fun s5 =>
  (lsl o3.1 y2 (o3.1.length : Int)).bind fun l6 => some (s5, (l6, ()), ()))

noncomputable def q9z_s0 {ρ : Type} (n : Nat) (rec : Int × Int × (List ByteArray) × ((List Int) × Unit) × Unit → Option ρ) (kx : (List ByteArray) × ((List Int) × Unit) × Unit → Option ρ) (kr : Unit → Option ρ) : Int × Int × (List ByteArray) × ((List Int) × Unit) × Unit → Option ρ :=
  fun (v4, v5, o6, o7, _) =>
  (bif decide ((v5 : Int) < v4) then
  (q34z n ((o7.1, ()), ())).bind fun (y8, o9, _) =>
  ck (room (o6 ++ ([y8] : List ByteArray)).length 16) (rec (v4, IntKind.wrap .i64 (v5 + 1), o6 ++ ([y8] : List ByteArray), (o9.1, ()), ()))
  else kx (o6, (o7.1, ()), ()))

noncomputable def q9z (n : Nat) : ((List Int) × Unit) × Unit → Option ((List ByteArray) × ((List Int) × Unit) × Unit) :=
  fun (o1, _) =>
  (q24z n ((o1.1, ()), ())).bind fun (y2, o3, _) =>
  (bif (decide ((y2 : Int) < 0)) || (decide ((y2 : Int) > (o3.1.length : Int))) then none
  else
  iterN (fun rc12 => q9z_s0 n rc12 (fun (o10, o11, _) => some (o10, (o11.1, ()), ())) (fun (_) => none)) (n) (y2, 0, ([] : List ByteArray), (o3.1, ()), ()))

noncomputable def q33z : Int × ((List Int) × Bool × Unit) × Unit → Option ((List Int) × ((List Int) × Bool × Unit) × Unit) :=
  fun (a1, o2, _) =>
  (bif o2.2.1 || (decide ((a1 : Int) > (o2.1.length : Int))) then
  (cnt? a1).bind fun m3 =>
  ck (room m3 1) (some ((List.replicate m3 0), (o2.1, true, ()), ()))
  else
  (lsl3 o2.1 0 a1 a1).bind fun l4 =>
  (lsl o2.1 a1 (o2.1.length : Int)).bind fun l5 => some (l4, (l5, o2.2.1, ()), ()))

noncomputable def q44z_s0 {ρ : Type} (n : Nat) (rec : Int × (List Int) × Int × Int × Unit → Option ρ) (kx : Int × Unit → Option ρ) (kr : Unit → Option ρ) : Int × (List Int) × Int × Int × Unit → Option ρ :=
  fun (v2, v3, v4, v5, _) =>
  (bif decide ((v5 : Int) < v4) then
  (ix v3 v5).bind fun x6 => rec (bor .u64 (bshl .u64 v2 8) (IntKind.wrap .u64 (x6)), v3, v4, IntKind.wrap .i64 (v5 + 1), ())
  else kx (v2, ()))

noncomputable def F_q44z_s0 {ρ : Type} (n : Nat) (kr : Unit → Option ρ) : Int → Int → (Int × Unit) → ((Int × Unit) → Option ρ) → Option ρ :=
  fun v5 x6 (v2, _) rec =>  rec (bor .u64 (bshl .u64 v2 8) (IntKind.wrap .u64 (x6)), ())

theorem R_q44z_s0 {ρ : Type} (n : Nat) (kx : Int × Unit → Option ρ) (kr : Unit → Option ρ) (l : List Int) (fuel : Nat) (v2 : Int) (hl : l.length ≤ 9223372036854775807) (hf : l.length < fuel) :
    iterN (fun rc => q44z_s0 n rc kx kr) fuel (v2, l, (l.length : Int), 0, ()) = foldK (F_q44z_s0 n kr) (fun (v2, _) => kx (v2, ())) 0 l (v2, ()) :=
  range_listM l (fun i (v2, _) => (v2, l, (l.length : Int), i, ())) _ _ _ (fun rec i s => rfl) hl fuel (v2, ()) hf

noncomputable def q44z (n : Nat) : (List Int) × Unit → Option (Int × Unit) :=
  fun (a1, _) =>
  iterN (fun rc8 => q44z_s0 n rc8 (fun (v7, _) => some (v7, ())) (fun (_) => none)) (n) (0, a1, (a1.length : Int), 0, ())

noncomputable def q27z_s1 {ρ : Type} (self_q27z : Int × ((List Int) × Bool × Unit) × Unit → Option (Ev.Val × ((List Int) × Bool × Unit) × Unit)) (n : Nat) (rec : Int × Int × Int × (Ev.Val × Unit) × (Int × Int × ByteArray × Unit) × (List Ev.Val) × ((List Int) × Bool × Unit) × Unit → Option ρ) (kx : (Ev.Val × Unit) × (Int × Int × ByteArray × Unit) × (List Ev.Val) × ((List Int) × Bool × Unit) × Unit → Option ρ) (kr : Unit → Option ρ) : Int × Int × Int × (Ev.Val × Unit) × (Int × Int × ByteArray × Unit) × (List Ev.Val) × ((List Int) × Bool × Unit) × Unit → Option ρ :=
  fun (v19, v20, v21, o22, o23, o24, o25, _) =>
  (bif decide ((v21 : Int) < v20) then
  (bif o25.2.1 || (decide ((v19 : Int) > 6)) then kx (((Ev.Val.mk o22.1.kind o22.1.n o22.1.s o22.1.l), ()), (o23.1, o23.2.1, o23.2.2.1, ()), o24, (o25.1, true, ()), ())
  else
  (self_q27z (IntKind.wrap .i64 (v19 + 1), (o25.1, o25.2.1, ()), ())).bind fun (y27, o28, _) =>
  ck (room (o24 ++ ([(Ev.Val.mk y27.kind y27.n y27.s y27.l)] : List Ev.Val)).length 56) (rec (v19, v20, IntKind.wrap .i64 (v21 + 1), ((Ev.Val.mk o22.1.kind o22.1.n o22.1.s o22.1.l), ()), (o23.1, o23.2.1, o23.2.2.1, ()), o24 ++ ([(Ev.Val.mk y27.kind y27.n y27.s y27.l)] : List Ev.Val), (o28.1, o28.2.1, ()), ())))
  else kx (((Ev.Val.mk o22.1.kind o22.1.n o22.1.s o22.1.l), ()), (o23.1, o23.2.1, o23.2.2.1, ()), o24, (o25.1, o25.2.1, ()), ()))

noncomputable def q27z_b (self_q27z : Int × ((List Int) × Bool × Unit) × Unit → Option (Ev.Val × ((List Int) × Bool × Unit) × Unit)) (n : Nat) : Int × ((List Int) × Bool × Unit) × Unit → Option (Ev.Val × ((List Int) × Bool × Unit) × Unit) :=
  fun (a1, o2, _) =>
  (q33z (1, (o2.1, o2.2.1, ()), ())).bind fun (y3, o4, _) =>
  (ix y3 0).bind fun x5 =>
  (bif (IntKind.wrap .i64 (x5) : Int) == 1 then
  (bif (IntKind.wrap .i64 (x5) : Int) == 1 then
  (q33z (8, (o4.1, o4.2.1, ()), ())).bind fun (y6, o7, _) =>
  (q44z n (y6, ())).bind fun (y8, _) => some ((Ev.Val.mk (IntKind.wrap .i64 (x5)) (IntKind.wrap .i64 (bxor .u64 y8 9223372036854775808)) (⟨#[]⟩ : ByteArray) ([] : List Ev.Val)), (o7.1, o7.2.1, ()), ())
  else
  (bif (IntKind.wrap .i64 (x5) : Int) == 3 then
  (q33z (2, (o4.1, o4.2.1, ()), ())).bind fun (y9, o10, _) =>
  (q44z n (y9, ())).bind fun (y11, _) =>
  (q33z (IntKind.wrap .i64 (y11), (o10.1, o10.2.1, ()), ())).bind fun (y12, o13, _) =>
  (str? y12).bind fun s14 =>
  (bif o13.2.1 then some ((Ev.Val.mk (IntKind.wrap .i64 (x5)) 0 s14 ([] : List Ev.Val)), (o13.1, true, ()), ())
  else
  (validN (s14, ())).bind fun (y15, _) => some ((Ev.Val.mk (IntKind.wrap .i64 (x5)) 0 s14 ([] : List Ev.Val)), (o13.1, !y15, ()), ()))
  else
  (bif (IntKind.wrap .i64 (x5) : Int) == 4 then
  (q33z (1, (o4.1, o4.2.1, ()), ())).bind fun (y16, o17, _) =>
  (ix y16 0).bind fun x18 =>
  iterN (fun rc33 => q27z_s1 self_q27z n rc33 (fun (o29, o30, o31, o32, _) => some ((Ev.Val.mk o30.1 o30.2.1 o30.2.2.1 o31), (o32.1, o32.2.1, ()), ())) (fun (_) => none)) (n) (a1, IntKind.wrap .i64 (x18), 0, ((Ev.Val.mk 0 0 (⟨#[]⟩ : ByteArray) ([] : List Ev.Val)), ()), (IntKind.wrap .i64 (x5), 0, (⟨#[]⟩ : ByteArray), ()), ([] : List Ev.Val), (o17.1, o17.2.1, ()), ())
  else some ((Ev.Val.mk (IntKind.wrap .i64 (x5)) 0 (⟨#[]⟩ : ByteArray) ([] : List Ev.Val)), (o4.1, o4.2.1, ()), ()))))
  else
  (bif (IntKind.wrap .i64 (x5) : Int) == 2 then
  (q33z (8, (o4.1, o4.2.1, ()), ())).bind fun (y34, o35, _) =>
  (q44z n (y34, ())).bind fun (y36, _) => some ((Ev.Val.mk (IntKind.wrap .i64 (x5)) (IntKind.wrap .i64 (bxor .u64 y36 9223372036854775808)) (⟨#[]⟩ : ByteArray) ([] : List Ev.Val)), (o35.1, o35.2.1, ()), ())
  else
  (bif (IntKind.wrap .i64 (x5) : Int) == 3 then
  (q33z (2, (o4.1, o4.2.1, ()), ())).bind fun (y37, o38, _) =>
  (q44z n (y37, ())).bind fun (y39, _) =>
  (q33z (IntKind.wrap .i64 (y39), (o38.1, o38.2.1, ()), ())).bind fun (y40, o41, _) =>
  (str? y40).bind fun s42 =>
  (bif o41.2.1 then some ((Ev.Val.mk (IntKind.wrap .i64 (x5)) 0 s42 ([] : List Ev.Val)), (o41.1, true, ()), ())
  else
  (validN (s42, ())).bind fun (y43, _) => some ((Ev.Val.mk (IntKind.wrap .i64 (x5)) 0 s42 ([] : List Ev.Val)), (o41.1, !y43, ()), ()))
  else
  (bif (IntKind.wrap .i64 (x5) : Int) == 4 then
  (q33z (1, (o4.1, o4.2.1, ()), ())).bind fun (y44, o45, _) =>
  (ix y44 0).bind fun x46 =>
  iterN (fun rc51 => q27z_s1 self_q27z n rc51 (fun (o47, o48, o49, o50, _) => some ((Ev.Val.mk o48.1 o48.2.1 o48.2.2.1 o49), (o50.1, o50.2.1, ()), ())) (fun (_) => none)) (n) (a1, IntKind.wrap .i64 (x46), 0, ((Ev.Val.mk 0 0 (⟨#[]⟩ : ByteArray) ([] : List Ev.Val)), ()), (IntKind.wrap .i64 (x5), 0, (⟨#[]⟩ : ByteArray), ()), ([] : List Ev.Val), (o45.1, o45.2.1, ()), ())
  else some ((Ev.Val.mk (IntKind.wrap .i64 (x5)) 0 (⟨#[]⟩ : ByteArray) ([] : List Ev.Val)), (o4.1, o4.2.1, ()), ())))))

noncomputable def q27z : Nat → Int × ((List Int) × Bool × Unit) × Unit → Option (Ev.Val × ((List Int) × Bool × Unit) × Unit)
  | 0, _ => none
  | n + 1, x => q27z_b (q27z n) n x

noncomputable def code_Long (n : Nat) : ByteArray × Unit → Option (Int × Bool × Unit) :=
  fun (a1, _) =>
  (q27z n (1, (bytesI a1, false, ()), ())).bind fun (y2, o3, _) =>
  (bif o3.2.1 then some (0, false, ())
  else
  (q53z n ((Ev.Val.mk y2.kind y2.n y2.s y2.l), ())).bind fun (y4, _) =>
  (bif (y4 : Int) != 0 then some (0, false, ())
  else some (IntKind.wrap .i64 ((a1.size : Int) - (o3.1.length : Int)), true, ())))

noncomputable def q55z (n : Nat) : ByteArray × Unit → Option (Ev.Val × Int × Unit) :=
  fun (a1, _) =>
  (bif decide (((a1.size : Int) : Int) > 8000) then some ((Ev.Val.mk 0 0 (⟨#[]⟩ : ByteArray) ([] : List Ev.Val)), 2, ())
  else
  (q27z n (1, (bytesI a1, false, ()), ())).bind fun (y2, o3, _) =>
  (bif o3.2.1 || (decide (((o3.1.length : Int) : Int) > 0)) then some ((Ev.Val.mk 0 0 (⟨#[]⟩ : ByteArray) ([] : List Ev.Val)), 11, ())
  else
  (q53z n ((Ev.Val.mk y2.kind y2.n y2.s y2.l), ())).bind fun (y4, _) =>
  (bif (y4 : Int) != 0 then some ((Ev.Val.mk 0 0 (⟨#[]⟩ : ByteArray) ([] : List Ev.Val)), 11, ())
  else some ((Ev.Val.mk y2.kind y2.n y2.s y2.l), 0, ()))))

noncomputable def q29z (n : Nat) : ((List Int) × Unit) × Unit → Option (Ev.Val × ((List Int) × Unit) × Unit) :=
  fun (o1, _) =>
  (str? o1.1).bind fun s2 =>
  (code_Long n (s2, ())).bind fun (y3, y4, _) =>
  (bif !y4 then none
  else
  (lsl o1.1 0 y3).bind fun l5 =>
  (str? l5).bind fun s6 =>
  (q55z n (s6, ())).bind fun (y7, y8, _) =>
  (bif (y8 : Int) != 0 then none
  else
  (lsl o1.1 y3 (o1.1.length : Int)).bind fun l9 => some ((Ev.Val.mk y7.kind y7.n y7.s y7.l), (l9, ()), ())))

noncomputable def q20z (n : Nat) : Unit × ((List Int) × Unit) × Unit → Option (Ev.Prp × Unit × ((List Int) × Unit) × Unit) :=
  fun (o1, o2, _) =>
  (q34z n ((o2.1, ()), ())).bind fun (y4, o5, _) =>
  (q29z n ((o5.1, ()), ())).bind fun (y6, o7, _) => some ((Ev.Prp.mk y4 (Ev.Val.mk y6.kind y6.n y6.s y6.l)), (()), (o7.1, ()), ())

noncomputable def q5z_s0 {ρ : Type} (n : Nat) (rec : Int × Int × (List Ev.Prp) × ((List Int) × Unit) × Unit × Unit → Option ρ) (kx : (List Ev.Prp) × ((List Int) × Unit) × Unit × Unit → Option ρ) (kr : Unit → Option ρ) : Int × Int × (List Ev.Prp) × ((List Int) × Unit) × Unit × Unit → Option ρ :=
  fun (v5, v6, o7, o8, o9, _) =>
  (bif decide ((v6 : Int) < v5) then
  (q20z n ((()), (o8.1, ()), ())).bind fun (y10, o11, o12, _) =>
  ck (room (o7 ++ ([(Ev.Prp.mk y10.name (Ev.Val.mk y10.val.kind y10.val.n y10.val.s y10.val.l))] : List Ev.Prp)).length 72) (rec (v5, IntKind.wrap .i64 (v6 + 1), o7 ++ ([(Ev.Prp.mk y10.name (Ev.Val.mk y10.val.kind y10.val.n y10.val.s y10.val.l))] : List Ev.Prp), (o12.1, ()), (()), ()))
  else kx (o7, (o8.1, ()), (()), ()))

noncomputable def q5z (n : Nat) : ((List Int) × Unit) × Unit × Unit → Option ((List Ev.Prp) × ((List Int) × Unit) × Unit × Unit) :=
  fun (o1, o2, _) =>
  (q24z n ((o1.1, ()), ())).bind fun (y3, o4, _) =>
  (bif (decide ((y3 : Int) < 0)) || (decide ((y3 : Int) > (o4.1.length : Int))) then none
  else
  iterN (fun rc16 => q5z_s0 n rc16 (fun (o13, o14, o15, _) => some (o13, (o14.1, ()), (()), ())) (fun (_) => none)) (n) (y3, 0, ([] : List Ev.Prp), (o4.1, ()), (()), ()))

noncomputable def q28z (n : Nat) : ((List Int) × Unit) × Unit → Option ((List Ev.Prp) × ((List Int) × Unit) × Unit) :=
  fun (o1, _) =>
  (q5z n ((o1.1, ()), (()), ())).bind fun (y2, o3, o4, _) => some (y2, (o3.1, ()), ())

noncomputable def q37z (n : Nat) : Unit × ((List Int) × Unit) × Unit → Option (Ev.Node × Unit × ((List Int) × Unit) × Unit) :=
  fun (o1, o2, _) =>
  (q24z n ((o2.1, ()), ())).bind fun (y4, o5, _) =>
  (q9z n ((o5.1, ()), ())).bind fun (y6, o7, _) =>
  (q28z n ((o7.1, ()), ())).bind fun (y8, o9, _) => some ((Ev.Node.mk y4 y6 y8), (()), (o9.1, ()), ())

noncomputable def q7z_s0 {ρ : Type} (n : Nat) (rec : Int × Int × (List Ev.Node) × ((List Int) × Unit) × Unit × Unit → Option ρ) (kx : (List Ev.Node) × ((List Int) × Unit) × Unit × Unit → Option ρ) (kr : Unit → Option ρ) : Int × Int × (List Ev.Node) × ((List Int) × Unit) × Unit × Unit → Option ρ :=
  fun (v5, v6, o7, o8, o9, _) =>
  (bif decide ((v6 : Int) < v5) then
  (q37z n ((()), (o8.1, ()), ())).bind fun (y10, o11, o12, _) =>
  ck (room (o7 ++ ([(Ev.Node.mk y10.id y10.labels y10.props)] : List Ev.Node)).length 56) (rec (v5, IntKind.wrap .i64 (v6 + 1), o7 ++ ([(Ev.Node.mk y10.id y10.labels y10.props)] : List Ev.Node), (o12.1, ()), (()), ()))
  else kx (o7, (o8.1, ()), (()), ()))

noncomputable def q7z (n : Nat) : ((List Int) × Unit) × Unit × Unit → Option ((List Ev.Node) × ((List Int) × Unit) × Unit × Unit) :=
  fun (o1, o2, _) =>
  (q24z n ((o1.1, ()), ())).bind fun (y3, o4, _) =>
  (bif (decide ((y3 : Int) < 0)) || (decide ((y3 : Int) > (o4.1.length : Int))) then none
  else
  iterN (fun rc16 => q7z_s0 n rc16 (fun (o13, o14, o15, _) => some (o13, (o14.1, ()), (()), ())) (fun (_) => none)) (n) (y3, 0, ([] : List Ev.Node), (o4.1, ()), (()), ()))

noncomputable def q38z (n : Nat) : Unit × ((List Int) × Unit) × Unit → Option (Ev.Edg × Unit × ((List Int) × Unit) × Unit) :=
  fun (o1, o2, _) =>
  (q24z n ((o2.1, ()), ())).bind fun (y4, o5, _) =>
  (q24z n ((o5.1, ()), ())).bind fun (y6, o7, _) =>
  (q24z n ((o7.1, ()), ())).bind fun (y8, o9, _) =>
  (q34z n ((o9.1, ()), ())).bind fun (y10, o11, _) =>
  (q28z n ((o11.1, ()), ())).bind fun (y12, o13, _) => some ((Ev.Edg.mk y4 y6 y8 y10 y12), (()), (o13.1, ()), ())

noncomputable def q6z_s0 {ρ : Type} (n : Nat) (rec : Int × Int × (List Ev.Edg) × ((List Int) × Unit) × Unit × Unit → Option ρ) (kx : (List Ev.Edg) × ((List Int) × Unit) × Unit × Unit → Option ρ) (kr : Unit → Option ρ) : Int × Int × (List Ev.Edg) × ((List Int) × Unit) × Unit × Unit → Option ρ :=
  fun (v5, v6, o7, o8, o9, _) =>
  (bif decide ((v6 : Int) < v5) then
  (q38z n ((()), (o8.1, ()), ())).bind fun (y10, o11, o12, _) =>
  ck (room (o7 ++ ([(Ev.Edg.mk y10.id y10.src y10.dst y10.type y10.props)] : List Ev.Edg)).length 64) (rec (v5, IntKind.wrap .i64 (v6 + 1), o7 ++ ([(Ev.Edg.mk y10.id y10.src y10.dst y10.type y10.props)] : List Ev.Edg), (o12.1, ()), (()), ()))
  else kx (o7, (o8.1, ()), (()), ()))

noncomputable def q6z (n : Nat) : ((List Int) × Unit) × Unit × Unit → Option ((List Ev.Edg) × ((List Int) × Unit) × Unit × Unit) :=
  fun (o1, o2, _) =>
  (q24z n ((o1.1, ()), ())).bind fun (y3, o4, _) =>
  (bif (decide ((y3 : Int) < 0)) || (decide ((y3 : Int) > (o4.1.length : Int))) then none
  else
  iterN (fun rc16 => q6z_s0 n rc16 (fun (o13, o14, o15, _) => some (o13, (o14.1, ()), (()), ())) (fun (_) => none)) (n) (y3, 0, ([] : List Ev.Edg), (o4.1, ()), (()), ()))

noncomputable def q41z (n : Nat) : ((List Int) × Unit) × Unit → Option (Ev.Graph × ((List Int) × Unit) × Unit) :=
  fun (o1, _) =>
  (q24z n ((o1.1, ()), ())).bind fun (y2, o3, _) =>
  (q7z n ((o3.1, ()), (()), ())).bind fun (y4, o5, o6, _) =>
  (q6z n ((o5.1, ()), (()), ())).bind fun (y7, o8, o9, _) => some ((Ev.Graph.mk y4 y7 y2), (o8.1, ()), ())

noncomputable def q10z (n : Nat) : ByteArray × Unit → Option (Ev.Graph × Bool × Unit) :=
  fun (a1, _) =>
  (q41z n ((bytesI a1, ()), ())).bind fun (y2, o3, _) => some ((Ev.Graph.mk y2.nodes y2.edges y2.next), ((o3.1.length : Int) : Int) == 0, ())

noncomputable def q49z (n : Nat) : ByteArray × Unit → Option (Ev.Graph × Int × Unit) :=
  fun (a1, _) =>
  (q10z n (a1, ())).bind fun (y2, y3, _) =>
  (q58z n ((Ev.Graph.mk y2.nodes y2.edges y2.next), ())).bind fun (y4, y5, _) =>
  (bif ((!y3) || ((y5 : Int) != 0)) || (!(seq y4 a1)) then some ((Ev.Graph.mk ([] : List Ev.Node) ([] : List Ev.Edg) 0), 11, ())
  else some ((Ev.Graph.mk y2.nodes y2.edges y2.next), 0, ()))

noncomputable def q13z_s0 {ρ : Type} (n : Nat) (rec : (List ByteArray) × (List ByteArray) × Int × Int × Unit → Option ρ) (kx : Unit → Option ρ) (kr : Bool × Unit → Option ρ) : (List ByteArray) × (List ByteArray) × Int × Int × Unit → Option ρ :=
  fun (v3, v4, v5, v6, _) =>
  (bif decide ((v6 : Int) < v5) then
  (ix v3 v6).bind fun x9 =>
  (ix v4 v6).bind fun x10 =>
  (bif !(seq x9 x10) then kr (false, ())
  else rec (v3, v4, v5, IntKind.wrap .i64 (v6 + 1), ()))
  else kx (()))

noncomputable def F_q13z_s0 {ρ : Type} (n : Nat) (kr : Bool × Unit → Option ρ) : Int → ByteArray → ((List ByteArray) × Unit) → (((List ByteArray) × Unit) → Option ρ) → Option ρ :=
  fun v6 x9 (v4, _) rec =>
  (ix v4 v6).bind fun x10 =>
  (bif !(seq x9 x10) then kr (false, ())
  else rec (v4, ()))

theorem R_q13z_s0 {ρ : Type} (n : Nat) (kx : Unit → Option ρ) (kr : Bool × Unit → Option ρ) (l : List ByteArray) (fuel : Nat) (v4 : List ByteArray) (hl : l.length ≤ 9223372036854775807) (hf : l.length < fuel) :
    iterN (fun rc => q13z_s0 n rc kx kr) fuel (l, v4, (l.length : Int), 0, ()) = foldK (F_q13z_s0 n kr) (fun (v4, _) => kx (())) 0 l (v4, ()) :=
  range_listM l (fun i (v4, _) => (l, v4, (l.length : Int), i, ())) _ _ _ (fun rec i s => rfl) hl fuel (v4, ()) hf

noncomputable def q13z (n : Nat) : (List ByteArray) × (List ByteArray) × Unit → Option (Bool × Unit) :=
  fun (a1, a2, _) =>
  (bif ((a1.length : Int) : Int) != (a2.length : Int) then some (false, ())
  else
  iterN (fun rc12 => q13z_s0 n rc12 (fun (_) => some (true, ())) (fun (v11, _) => some (v11, ()))) (n) (a1, a2, (a1.length : Int), 0, ()))

noncomputable def q42z : (List Int) × (List Int) × Unit → Option (Int × Unit) :=
  fun (a1, a2, _) =>
  (cmpN (a1, a2, ())).bind fun (y3, _) => some (y3, ())

noncomputable def q23z_s1 {ρ : Type} (self_q23z : Ev.Val × Ev.Val × Unit → Option (Int × Unit)) (n : Nat) (rec : Int × (Ev.Val × Unit) × (Ev.Val × Unit) × Unit → Option ρ) (kx : (Ev.Val × Unit) × (Ev.Val × Unit) × Unit → Option ρ) (kr : Int × Unit → Option ρ) : Int × (Ev.Val × Unit) × (Ev.Val × Unit) × Unit → Option ρ :=
  fun (v4, o5, o6, _) =>
  (bif (decide ((v4 : Int) < (o5.1.l.length : Int))) && (decide ((v4 : Int) < (o6.1.l.length : Int))) then
  (ix o5.1.l v4).bind fun x9 =>
  (ix o6.1.l v4).bind fun x10 =>
  (self_q23z ((Ev.Val.mk x9.kind x9.n x9.s x9.l), (Ev.Val.mk x10.kind x10.n x10.s x10.l), ())).bind fun (y11, _) =>
  (bif (y11 : Int) != 0 then kr (y11, ())
  else rec (IntKind.wrap .i64 (v4 + 1), ((Ev.Val.mk o5.1.kind o5.1.n o5.1.s o5.1.l), ()), ((Ev.Val.mk o6.1.kind o6.1.n o6.1.s o6.1.l), ()), ()))
  else kx (((Ev.Val.mk o5.1.kind o5.1.n o5.1.s o5.1.l), ()), ((Ev.Val.mk o6.1.kind o6.1.n o6.1.s o6.1.l), ()), ()))

noncomputable def q23z_b (self_q23z : Ev.Val × Ev.Val × Unit → Option (Int × Unit)) (n : Nat) : Ev.Val × Ev.Val × Unit → Option (Int × Unit) :=
  fun (a1, a2, _) =>
  (bif decide ((a1.kind : Int) < a2.kind) then some ((-1), ())
  else
  (bif decide ((a1.kind : Int) > a2.kind) then some (1, ())
  else
  (bif decide ((a1.n : Int) < a2.n) then some ((-1), ())
  else
  (bif decide ((a1.n : Int) > a2.n) then some (1, ())
  else
  (bif !(seq a1.s a2.s) then
  (q42z (bytesI a1.s, bytesI a2.s, ())).bind fun (y3, _) => some (y3, ())
  else
  iterN (fun rc15 => q23z_s1 self_q23z n rc15 (fun (o12, o13, _) =>
  (bif decide (((o12.1.l.length : Int) : Int) < (o13.1.l.length : Int)) then some ((-1), ())
  else
  (bif decide (((o12.1.l.length : Int) : Int) > (o13.1.l.length : Int)) then some (1, ())
  else some (0, ())))) (fun (v14, _) => some (v14, ()))) (n) (0, ((Ev.Val.mk a1.kind a1.n a1.s a1.l), ()), ((Ev.Val.mk a2.kind a2.n a2.s a2.l), ()), ()))))))

noncomputable def q23z : Nat → Ev.Val × Ev.Val × Unit → Option (Int × Unit)
  | 0, _ => none
  | n + 1, x => q23z_b (q23z n) n x

noncomputable def q17z (n : Nat) : Ev.Val × Ev.Val × Unit → Option (Bool × Unit) :=
  fun (a1, a2, _) =>
  (q23z n ((Ev.Val.mk a1.kind a1.n a1.s a1.l), (Ev.Val.mk a2.kind a2.n a2.s a2.l), ())).bind fun (y3, _) => some ((y3 : Int) == 0, ())

noncomputable def q14z (n : Nat) : Ev.Prp × Ev.Prp × Unit → Option (Bool × Unit) :=
  fun (a1, a2, _) =>
  (bif seq a1.name a2.name then
  (q17z n ((Ev.Val.mk a1.val.kind a1.val.n a1.val.s a1.val.l), (Ev.Val.mk a2.val.kind a2.val.n a2.val.s a2.val.l), ())).bind fun (y3, _) => some (y3, ())
  else some (false, ()))

noncomputable def q0z_s0 {ρ : Type} (n : Nat) (rec : (List Ev.Prp) × (List Ev.Prp) × Int × Int × Unit → Option ρ) (kx : Unit → Option ρ) (kr : Bool × Unit → Option ρ) : (List Ev.Prp) × (List Ev.Prp) × Int × Int × Unit → Option ρ :=
  fun (v3, v4, v5, v6, _) =>
  (bif decide ((v6 : Int) < v5) then
  (ix v4 v6).bind fun x7 =>
  (ix v3 v6).bind fun x8 =>
  (q14z n ((Ev.Prp.mk x7.name (Ev.Val.mk x7.val.kind x7.val.n x7.val.s x7.val.l)), (Ev.Prp.mk x8.name (Ev.Val.mk x8.val.kind x8.val.n x8.val.s x8.val.l)), ())).bind fun (y9, _) =>
  (bif !y9 then kr (false, ())
  else rec (v3, v4, v5, IntKind.wrap .i64 (v6 + 1), ()))
  else kx (()))

noncomputable def F_q0z_s0 {ρ : Type} (n : Nat) (kr : Bool × Unit → Option ρ) : Int → Ev.Prp → ((List Ev.Prp) × Unit) → (((List Ev.Prp) × Unit) → Option ρ) → Option ρ :=
  fun v6 x7 (v3, _) rec =>
  (ix v3 v6).bind fun x8 =>
  (q14z n ((Ev.Prp.mk x7.name (Ev.Val.mk x7.val.kind x7.val.n x7.val.s x7.val.l)), (Ev.Prp.mk x8.name (Ev.Val.mk x8.val.kind x8.val.n x8.val.s x8.val.l)), ())).bind fun (y9, _) =>
  (bif !y9 then kr (false, ())
  else rec (v3, ()))

theorem R_q0z_s0 {ρ : Type} (n : Nat) (kx : Unit → Option ρ) (kr : Bool × Unit → Option ρ) (l : List Ev.Prp) (fuel : Nat) (v3 : List Ev.Prp) (hl : l.length ≤ 9223372036854775807) (hf : l.length < fuel) :
    iterN (fun rc => q0z_s0 n rc kx kr) fuel (v3, l, (l.length : Int), 0, ()) = foldK (F_q0z_s0 n kr) (fun (v3, _) => kx (())) 0 l (v3, ()) :=
  range_listM l (fun i (v3, _) => (v3, l, (l.length : Int), i, ())) _ _ _ (fun rec i s => rfl) hl fuel (v3, ()) hf

noncomputable def q0z (n : Nat) : (List Ev.Prp) × (List Ev.Prp) × Unit → Option (Bool × Unit) :=
  fun (a1, a2, _) =>
  (bif ((a1.length : Int) : Int) != (a2.length : Int) then some (false, ())
  else
  iterN (fun rc11 => q0z_s0 n rc11 (fun (_) => some (true, ())) (fun (v10, _) => some (v10, ()))) (n) (a2, a1, (a1.length : Int), 0, ()))

noncomputable def q16z (n : Nat) : (List Ev.Prp) × (List Ev.Prp) × Unit → Option (Bool × Unit) :=
  fun (a1, a2, _) =>
  (q0z n (a1, a2, ())).bind fun (y3, _) => some (y3, ())

noncomputable def q19z (n : Nat) : Ev.Node × Ev.Node × Unit → Option (Bool × Unit) :=
  fun (a1, a2, _) =>
  (bif (a1.id : Int) == a2.id then
  (q13z n (a1.labels, a2.labels, ())).bind fun (y3, _) =>
  (bif y3 then
  (q16z n (a1.props, a2.props, ())).bind fun (y4, _) => some (y4, ())
  else some (false, ()))
  else some (false, ()))

noncomputable def q2z_s0 {ρ : Type} (n : Nat) (rec : (List Ev.Node) × (List Ev.Node) × Int × Int × Unit → Option ρ) (kx : Unit → Option ρ) (kr : Bool × Unit → Option ρ) : (List Ev.Node) × (List Ev.Node) × Int × Int × Unit → Option ρ :=
  fun (v3, v4, v5, v6, _) =>
  (bif decide ((v6 : Int) < v5) then
  (ix v4 v6).bind fun x7 =>
  (ix v3 v6).bind fun x8 =>
  (q19z n ((Ev.Node.mk x7.id x7.labels x7.props), (Ev.Node.mk x8.id x8.labels x8.props), ())).bind fun (y9, _) =>
  (bif !y9 then kr (false, ())
  else rec (v3, v4, v5, IntKind.wrap .i64 (v6 + 1), ()))
  else kx (()))

noncomputable def F_q2z_s0 {ρ : Type} (n : Nat) (kr : Bool × Unit → Option ρ) : Int → Ev.Node → ((List Ev.Node) × Unit) → (((List Ev.Node) × Unit) → Option ρ) → Option ρ :=
  fun v6 x7 (v3, _) rec =>
  (ix v3 v6).bind fun x8 =>
  (q19z n ((Ev.Node.mk x7.id x7.labels x7.props), (Ev.Node.mk x8.id x8.labels x8.props), ())).bind fun (y9, _) =>
  (bif !y9 then kr (false, ())
  else rec (v3, ()))

theorem R_q2z_s0 {ρ : Type} (n : Nat) (kx : Unit → Option ρ) (kr : Bool × Unit → Option ρ) (l : List Ev.Node) (fuel : Nat) (v3 : List Ev.Node) (hl : l.length ≤ 9223372036854775807) (hf : l.length < fuel) :
    iterN (fun rc => q2z_s0 n rc kx kr) fuel (v3, l, (l.length : Int), 0, ()) = foldK (F_q2z_s0 n kr) (fun (v3, _) => kx (())) 0 l (v3, ()) :=
  range_listM l (fun i (v3, _) => (v3, l, (l.length : Int), i, ())) _ _ _ (fun rec i s => rfl) hl fuel (v3, ()) hf

noncomputable def q2z (n : Nat) : (List Ev.Node) × (List Ev.Node) × Unit → Option (Bool × Unit) :=
  fun (a1, a2, _) =>
  (bif ((a1.length : Int) : Int) != (a2.length : Int) then some (false, ())
  else
  iterN (fun rc11 => q2z_s0 n rc11 (fun (_) => some (true, ())) (fun (v10, _) => some (v10, ()))) (n) (a2, a1, (a1.length : Int), 0, ()))

noncomputable def q18z (n : Nat) : Ev.Edg × Ev.Edg × Unit → Option (Bool × Unit) :=
  fun (a1, a2, _) =>
  (bif ((((a1.id : Int) == a2.id) && ((a1.src : Int) == a2.src)) && ((a1.dst : Int) == a2.dst)) && (seq a1.type a2.type) then
  (q16z n (a1.props, a2.props, ())).bind fun (y3, _) => some (y3, ())
  else some (false, ()))

noncomputable def q1z_s0 {ρ : Type} (n : Nat) (rec : (List Ev.Edg) × (List Ev.Edg) × Int × Int × Unit → Option ρ) (kx : Unit → Option ρ) (kr : Bool × Unit → Option ρ) : (List Ev.Edg) × (List Ev.Edg) × Int × Int × Unit → Option ρ :=
  fun (v3, v4, v5, v6, _) =>
  (bif decide ((v6 : Int) < v5) then
  (ix v4 v6).bind fun x7 =>
  (ix v3 v6).bind fun x8 =>
  (q18z n ((Ev.Edg.mk x7.id x7.src x7.dst x7.type x7.props), (Ev.Edg.mk x8.id x8.src x8.dst x8.type x8.props), ())).bind fun (y9, _) =>
  (bif !y9 then kr (false, ())
  else rec (v3, v4, v5, IntKind.wrap .i64 (v6 + 1), ()))
  else kx (()))

noncomputable def F_q1z_s0 {ρ : Type} (n : Nat) (kr : Bool × Unit → Option ρ) : Int → Ev.Edg → ((List Ev.Edg) × Unit) → (((List Ev.Edg) × Unit) → Option ρ) → Option ρ :=
  fun v6 x7 (v3, _) rec =>
  (ix v3 v6).bind fun x8 =>
  (q18z n ((Ev.Edg.mk x7.id x7.src x7.dst x7.type x7.props), (Ev.Edg.mk x8.id x8.src x8.dst x8.type x8.props), ())).bind fun (y9, _) =>
  (bif !y9 then kr (false, ())
  else rec (v3, ()))

theorem R_q1z_s0 {ρ : Type} (n : Nat) (kx : Unit → Option ρ) (kr : Bool × Unit → Option ρ) (l : List Ev.Edg) (fuel : Nat) (v3 : List Ev.Edg) (hl : l.length ≤ 9223372036854775807) (hf : l.length < fuel) :
    iterN (fun rc => q1z_s0 n rc kx kr) fuel (v3, l, (l.length : Int), 0, ()) = foldK (F_q1z_s0 n kr) (fun (v3, _) => kx (())) 0 l (v3, ()) :=
  range_listM l (fun i (v3, _) => (v3, l, (l.length : Int), i, ())) _ _ _ (fun rec i s => rfl) hl fuel (v3, ()) hf

noncomputable def q1z (n : Nat) : (List Ev.Edg) × (List Ev.Edg) × Unit → Option (Bool × Unit) :=
  fun (a1, a2, _) =>
  (bif ((a1.length : Int) : Int) != (a2.length : Int) then some (false, ())
  else
  iterN (fun rc11 => q1z_s0 n rc11 (fun (_) => some (true, ())) (fun (v10, _) => some (v10, ()))) (n) (a2, a1, (a1.length : Int), 0, ()))

noncomputable def q15z (n : Nat) : Ev.Graph × Ev.Graph × Unit → Option (Bool × Unit) :=
  fun (a1, a2, _) =>
  (bif (a1.next : Int) == a2.next then
  (q2z n (a1.nodes, a2.nodes, ())).bind fun (y3, _) =>
  (bif y3 then
  (q1z n (a1.edges, a2.edges, ())).bind fun (y4, _) => some (y4, ())
  else some (false, ()))
  else some (false, ()))

noncomputable def q26z (n : Nat) : Unit → Option (Bool × Unit) :=
  fun (_) =>
  (q32z (())).bind fun (y1, _) =>
  (q58z n ((Ev.Graph.mk y1.nodes y1.edges y1.next), ())).bind fun (y2, y3, _) =>
  (q49z n (y2, ())).bind fun (y4, y5, _) =>
  (bif (((y3 : Int) == 0) && ((y5 : Int) == 0)) && (!(seq y2 (⟨#[]⟩ : ByteArray))) then
  (q32z (())).bind fun (y6, _) =>
  (q15z n ((Ev.Graph.mk y4.nodes y4.edges y4.next), (Ev.Graph.mk y6.nodes y6.edges y6.next), ())).bind fun (y7, _) => some (y7, ())
  else some (false, ()))

noncomputable def q22z (n : Nat) : Ev.Graph × Ev.Graph × Unit → Option (Bool × Unit) :=
  fun (a1, a2, _) =>
  (q58z n ((Ev.Graph.mk a1.nodes a1.edges a1.next), ())).bind fun (y3, y4, _) =>
  (q58z n ((Ev.Graph.mk a2.nodes a2.edges a2.next), ())).bind fun (y5, y6, _) =>
  (q26z n (())).bind fun (y7, _) =>
  (bif y7 then
  (bif ((y4 : Int) != 0) || ((y6 : Int) != 0) then some (true, ())
  else
  (q15z n ((Ev.Graph.mk a1.nodes a1.edges a1.next), (Ev.Graph.mk a2.nodes a2.edges a2.next), ())).bind fun (y8, _) => some ((seq y3 y5) == y8, ()))
  else some (false, ()))

end Pure

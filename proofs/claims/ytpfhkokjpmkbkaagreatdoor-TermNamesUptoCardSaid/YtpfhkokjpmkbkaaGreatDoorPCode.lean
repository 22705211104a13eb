/- Plain functions that compute what functions of the program compute (written by gen.py). -/
import Derived.Test.YtpfhkokjpmkbkaaGreatDoorEvLib
import Derived.Test.YtpfhkokjpmkbkaaGreatDoorPFree
namespace Pure
open Esp Ev Go
set_option linter.unusedSimpArgs false
set_option linter.unusedVariables false

noncomputable def q15z : Int × Unit → Option (Ev.Val × Unit) :=
  fun (a1, _) =>
  (bif (a1 : Int) == 2 then some ((Ev.Val.mk 0 0 (⟨#[]⟩ : ByteArray) ([] : List Ev.Val)), ())
  else some ((Ev.Val.mk 1 a1 (⟨#[]⟩ : ByteArray) ([] : List Ev.Val)), ()))

noncomputable def q20z : Int × Unit → Option (Ev.Val × Unit) :=
  fun (a1, _) => some ((Ev.Val.mk 2 a1 (⟨#[]⟩ : ByteArray) ([] : List Ev.Val)), ())

noncomputable def q14z : Unit → Option (Ev.Graph × Unit) :=
  fun (_) =>
  (q20z (5, ())).bind fun (y1, _) => some ((Ev.Graph.mk ([(Ev.Node.mk 1 ([(⟨#[65]⟩ : ByteArray)] : List ByteArray) ([(Ev.Prp.mk (⟨#[110]⟩ : ByteArray) (Ev.Val.mk y1.kind y1.n y1.s y1.l))] : List Ev.Prp)), (Ev.Node.mk 2 ([] : List ByteArray) ([] : List Ev.Prp))] : List Ev.Node) ([(Ev.Edg.mk 3 1 2 (⟨#[75]⟩ : ByteArray) ([] : List Ev.Prp))] : List Ev.Edg) 4), ())

noncomputable def q44z_s0 {ρ : Type} (n : Nat) (rec : ByteArray × Int × Int × Unit → Option ρ) (kx : Unit → Option ρ) (kr : Bool × Unit → Option ρ) : ByteArray × Int × Int × Unit → Option ρ :=
  fun (v2, v3, v4, _) =>
  (bif decide ((v4 : Int) < v3) then
  (sat v2 v4).bind fun c5 =>
  (bif (!((((decide ((c5 : Int) ≥ 97)) && (decide ((c5 : Int) ≤ 122))) || ((decide ((c5 : Int) ≥ 65)) && (decide ((c5 : Int) ≤ 90)))) || ((c5 : Int) == 95))) && ((((v4 : Int) == 0) || (decide ((c5 : Int) < 48))) || (decide ((c5 : Int) > 57))) then kr (false, ())
  else rec (v2, v3, IntKind.wrap .i64 (v4 + 1), ()))
  else kx (()))

noncomputable def F_q44z_s0 {ρ : Type} (n : Nat) (kr : Bool × Unit → Option ρ) : Int → Int → Unit → (Unit → Option ρ) → Option ρ :=
  fun v4 c5 (_) rec =>
  (bif (!((((decide ((c5 : Int) ≥ 97)) && (decide ((c5 : Int) ≤ 122))) || ((decide ((c5 : Int) ≥ 65)) && (decide ((c5 : Int) ≤ 90)))) || ((c5 : Int) == 95))) && ((((v4 : Int) == 0) || (decide ((c5 : Int) < 48))) || (decide ((c5 : Int) > 57))) then kr (false, ())
  else rec (()))

theorem R_q44z_s0 {ρ : Type} (n : Nat) (kx : Unit → Option ρ) (kr : Bool × Unit → Option ρ) (l : ByteArray) (fuel : Nat) (hl : l.size ≤ 4611686018427387904) (hf : l.size < fuel) :
    iterN (fun rc => q44z_s0 n rc kx kr) fuel (l, (l.size : Int), 0, ()) = foldK (F_q44z_s0 n kr) (fun (_) => kx (())) 0 (bi l.data.toList) (()) :=
  range_str l (fun i (_) => (l, (l.size : Int), i, ())) _ _ _ (fun rec i s => rfl) hl fuel (()) hf

noncomputable def q44z (n : Nat) : ByteArray × Unit → Option (Bool × Unit) :=
  fun (a1, _) =>
  (bif (seq a1 (⟨#[]⟩ : ByteArray)) || (decide (((a1.size : Int) : Int) > 12)) then some (false, ())
  else
  iterN (fun rc7 => q44z_s0 n rc7 (fun (_) => some (true, ())) (fun (v6, _) => some (v6, ()))) (n) (a1, (a1.size : Int), 0, ()))

noncomputable def q31z_s0 {ρ : Type} (n : Nat) (rec : (List ByteArray) × (List ByteArray) × Int × Int × Unit → Option ρ) (kx : Unit → Option ρ) (kr : Int × Unit → Option ρ) : (List ByteArray) × (List ByteArray) × Int × Int × Unit → Option ρ :=
  fun (v2, v3, v4, v5, _) =>
  (bif decide ((v5 : Int) < v4) then
  (ix v3 v5).bind fun x6 =>
  (q44z n (x6, ())).bind fun (y7, _) =>
  (bif !y7 then kr (6, ())
  else
  (bif decide ((v5 : Int) > 0) then
  (ix v2 (IntKind.wrap .i64 (v5 - 1))).bind fun x8 =>
  (bif !(sless x8 x6) then kr (6, ())
  else rec (v2, v3, v4, IntKind.wrap .i64 (v5 + 1), ()))
  else rec (v2, v3, v4, IntKind.wrap .i64 (v5 + 1), ())))
  else kx (()))

noncomputable def F_q31z_s0 {ρ : Type} (n : Nat) (kr : Int × Unit → Option ρ) : Int → ByteArray → ((List ByteArray) × Unit) → (((List ByteArray) × Unit) → Option ρ) → Option ρ :=
  fun v5 x6 (v2, _) rec =>
  (q44z n (x6, ())).bind fun (y7, _) =>
  (bif !y7 then kr (6, ())
  else
  (bif decide ((v5 : Int) > 0) then
  (ix v2 (IntKind.wrap .i64 (v5 - 1))).bind fun x8 =>
  (bif !(sless x8 x6) then kr (6, ())
  else rec (v2, ()))
  else rec (v2, ())))

theorem R_q31z_s0 {ρ : Type} (n : Nat) (kx : Unit → Option ρ) (kr : Int × Unit → Option ρ) (l : List ByteArray) (fuel : Nat) (v2 : List ByteArray) (hl : l.length ≤ 9223372036854775807) (hf : l.length < fuel) :
    iterN (fun rc => q31z_s0 n rc kx kr) fuel (v2, l, (l.length : Int), 0, ()) = foldK (F_q31z_s0 n kr) (fun (v2, _) => kx (())) 0 l (v2, ()) :=
  range_listM l (fun i (v2, _) => (v2, l, (l.length : Int), i, ())) _ _ _ (fun rec i s => rfl) hl fuel (v2, ()) hf

noncomputable def q31z (n : Nat) : (List ByteArray) × Unit → Option (Int × Unit) :=
  fun (a1, _) =>
  (bif decide (((a1.length : Int) : Int) > 4) then some (2, ())
  else
  iterN (fun rc10 => q31z_s0 n rc10 (fun (_) => some (0, ())) (fun (v9, _) => some (v9, ()))) (n) (a1, a1, (a1.length : Int), 0, ()))

noncomputable def q39z_s1 {ρ : Type} (self_q39z : Ev.Val × Int × Unit → Option (Int × Unit)) (n : Nat) (rec : Int × (List Ev.Val) × Int × Int × (Ev.Val × Unit) × Unit → Option ρ) (kx : (Ev.Val × Unit) × Unit → Option ρ) (kr : Int × Unit → Option ρ) : Int × (List Ev.Val) × Int × Int × (Ev.Val × Unit) × Unit → Option ρ :=
  fun (v4, v5, v6, v7, o8, _) =>
  (bif decide ((v7 : Int) < v6) then
  (ix v5 v7).bind fun x9 =>
  (self_q39z ((Ev.Val.mk x9.kind x9.n x9.s x9.l), IntKind.wrap .i64 (v4 + 1), ())).bind fun (y10, _) =>
  (bif (y10 : Int) != 0 then kr (y10, ())
  else rec (v4, v5, v6, IntKind.wrap .i64 (v7 + 1), ((Ev.Val.mk o8.1.kind o8.1.n o8.1.s o8.1.l), ()), ()))
  else kx (((Ev.Val.mk o8.1.kind o8.1.n o8.1.s o8.1.l), ()), ()))

noncomputable def F_q39z_s1 {ρ : Type} (self_q39z : Ev.Val × Int × Unit → Option (Int × Unit)) (n : Nat) (kr : Int × Unit → Option ρ) : Int → Ev.Val → (Int × (Ev.Val × Unit) × Unit) → ((Int × (Ev.Val × Unit) × Unit) → Option ρ) → Option ρ :=
  fun v7 x9 (v4, o8, _) rec =>
  (self_q39z ((Ev.Val.mk x9.kind x9.n x9.s x9.l), IntKind.wrap .i64 (v4 + 1), ())).bind fun (y10, _) =>
  (bif (y10 : Int) != 0 then kr (y10, ())
  else rec (v4, ((Ev.Val.mk o8.1.kind o8.1.n o8.1.s o8.1.l), ()), ()))

theorem R_q39z_s1 {ρ : Type} (self_q39z : Ev.Val × Int × Unit → Option (Int × Unit)) (n : Nat) (kx : (Ev.Val × Unit) × Unit → Option ρ) (kr : Int × Unit → Option ρ) (l : List Ev.Val) (fuel : Nat) (v4 : Int) (o8 : Ev.Val × Unit) (hl : l.length ≤ 9223372036854775807) (hf : l.length < fuel) :
    iterN (fun rc => q39z_s1 self_q39z n rc kx kr) fuel (v4, l, (l.length : Int), 0, o8, ()) = foldK (F_q39z_s1 self_q39z n kr) (fun (v4, o8, _) => kx (((Ev.Val.mk o8.1.kind o8.1.n o8.1.s o8.1.l), ()), ())) 0 l (v4, o8, ()) :=
  range_listM l (fun i (v4, o8, _) => (v4, l, (l.length : Int), i, o8, ())) _ _ _ (fun rec i s => rfl) hl fuel (v4, o8, ()) hf

noncomputable def q39z_b (self_q39z : Ev.Val × Int × Unit → Option (Int × Unit)) (n : Nat) : Ev.Val × Int × Unit → Option (Int × Unit) :=
  fun (a1, a2, _) =>
  (bif (a1.kind : Int) == 0 then
  (bif !((((a1.n : Int) == 0) && (seq a1.s (⟨#[]⟩ : ByteArray))) && (((a1.l.length : Int) : Int) == 0)) then some (6, ())
  else some (0, ()))
  else
  (bif (a1.kind : Int) == 1 then
  (bif !(((((a1.n : Int) == 0) || ((a1.n : Int) == 1)) && (seq a1.s (⟨#[]⟩ : ByteArray))) && (((a1.l.length : Int) : Int) == 0)) then some (6, ())
  else some (0, ()))
  else
  (bif (a1.kind : Int) == 2 then
  (bif !((seq a1.s (⟨#[]⟩ : ByteArray)) && (((a1.l.length : Int) : Int) == 0)) then some (6, ())
  else some (0, ()))
  else
  (bif (a1.kind : Int) == 3 then
  (bif decide (((a1.s.size : Int) : Int) > 4000) then some (2, ())
  else
  (bif (a1.n : Int) == 0 then
  (validN (a1.s, ())).bind fun (y3, _) =>
  (bif !(y3 && (((a1.l.length : Int) : Int) == 0)) then some (6, ())
  else some (0, ()))
  else some (6, ())))
  else
  (bif (a1.kind : Int) == 4 then
  (bif (decide (((a1.l.length : Int) : Int) > 30)) || (decide ((a2 : Int) > 6)) then some (2, ())
  else
  iterN (fun rc13 => q39z_s1 self_q39z n rc13 (fun (o11, _) =>
  (bif !(((o11.1.n : Int) == 0) && (seq o11.1.s (⟨#[]⟩ : ByteArray))) then some (6, ())
  else some (0, ()))) (fun (v12, _) => some (v12, ()))) (n) (a2, a1.l, (a1.l.length : Int), 0, ((Ev.Val.mk a1.kind a1.n a1.s a1.l), ()), ()))
  else some (6, ()))))))

noncomputable def q39z : Nat → Ev.Val × Int × Unit → Option (Int × Unit)
  | 0, _ => none
  | n + 1, x => q39z_b (q39z n) n x

noncomputable def q37z (n : Nat) : Ev.Val × Unit → Option (Int × Unit) :=
  fun (a1, _) =>
  (q39z n ((Ev.Val.mk a1.kind a1.n a1.s a1.l), 1, ())).bind fun (y2, _) => some (y2, ())

noncomputable def q34z_s0 {ρ : Type} (n : Nat) (rec : (List Ev.Prp) × (List Ev.Prp) × Int × Int × Unit → Option ρ) (kx : Unit → Option ρ) (kr : Int × Unit → Option ρ) : (List Ev.Prp) × (List Ev.Prp) × Int × Int × Unit → Option ρ :=
  fun (v2, v3, v4, v5, _) =>
  (bif decide ((v5 : Int) < v4) then
  (ix v3 v5).bind fun x6 =>
  (q44z n (x6.name, ())).bind fun (y8, _) =>
  (bif !y8 then kr (6, ())
  else
  (bif decide ((v5 : Int) > 0) then
  (ix v2 (IntKind.wrap .i64 (v5 - 1))).bind fun x9 =>
  (bif (!(sless x9.name x6.name)) || ((x6.val.kind : Int) == 0) then kr (6, ())
  else
  (q37z n ((Ev.Val.mk x6.val.kind x6.val.n x6.val.s x6.val.l), ())).bind fun (y10, _) =>
  (bif (y10 : Int) != 0 then kr (y10, ())
  else rec (v2, v3, v4, IntKind.wrap .i64 (v5 + 1), ())))
  else
  (bif (x6.val.kind : Int) == 0 then kr (6, ())
  else
  (q37z n ((Ev.Val.mk x6.val.kind x6.val.n x6.val.s x6.val.l), ())).bind fun (y11, _) =>
  (bif (y11 : Int) != 0 then kr (y11, ())
  else rec (v2, v3, v4, IntKind.wrap .i64 (v5 + 1), ())))))
  else kx (()))

noncomputable def F_q34z_s0 {ρ : Type} (n : Nat) (kr : Int × Unit → Option ρ) : Int → Ev.Prp → ((List Ev.Prp) × Unit) → (((List Ev.Prp) × Unit) → Option ρ) → Option ρ :=
  fun v5 x6 (v2, _) rec =>
  (q44z n (x6.name, ())).bind fun (y8, _) =>
  (bif !y8 then kr (6, ())
  else
  (bif decide ((v5 : Int) > 0) then
  (ix v2 (IntKind.wrap .i64 (v5 - 1))).bind fun x9 =>
  (bif (!(sless x9.name x6.name)) || ((x6.val.kind : Int) == 0) then kr (6, ())
  else
  (q37z n ((Ev.Val.mk x6.val.kind x6.val.n x6.val.s x6.val.l), ())).bind fun (y10, _) =>
  (bif (y10 : Int) != 0 then kr (y10, ())
  else rec (v2, ())))
  else
  (bif (x6.val.kind : Int) == 0 then kr (6, ())
  else
  (q37z n ((Ev.Val.mk x6.val.kind x6.val.n x6.val.s x6.val.l), ())).bind fun (y11, _) =>
  (bif (y11 : Int) != 0 then kr (y11, ())
  else rec (v2, ())))))

theorem R_q34z_s0 {ρ : Type} (n : Nat) (kx : Unit → Option ρ) (kr : Int × Unit → Option ρ) (l : List Ev.Prp) (fuel : Nat) (v2 : List Ev.Prp) (hl : l.length ≤ 9223372036854775807) (hf : l.length < fuel) :
    iterN (fun rc => q34z_s0 n rc kx kr) fuel (v2, l, (l.length : Int), 0, ()) = foldK (F_q34z_s0 n kr) (fun (v2, _) => kx (())) 0 l (v2, ()) :=
  range_listM l (fun i (v2, _) => (v2, l, (l.length : Int), i, ())) _ _ _ (fun rec i s => rfl) hl fuel (v2, ()) hf

noncomputable def q34z (n : Nat) : (List Ev.Prp) × Unit → Option (Int × Unit) :=
  fun (a1, _) =>
  (bif decide (((a1.length : Int) : Int) > 6) then some (2, ())
  else
  iterN (fun rc13 => q34z_s0 n rc13 (fun (_) => some (0, ())) (fun (v12, _) => some (v12, ()))) (n) (a1, a1, (a1.length : Int), 0, ()))

noncomputable def q16z_s0 {ρ : Type} (n : Nat) (rec : Int × (List Int) × Int × Int × Unit → Option ρ) (kx : Int × Unit → Option ρ) (kr : Int × Unit → Option ρ) : Int × (List Int) × Int × Int × Unit → Option ρ :=
  fun (v2, v3, v4, v5, _) =>
  (bif decide ((v5 : Int) < v4) then
  (ix v3 v5).bind fun x6 =>
  (bif (x6 : Int) != v2 then kr (x6, ())
  else rec (v2, v3, v4, IntKind.wrap .i64 (v5 + 1), ()))
  else kx (v2, ()))

noncomputable def F_q16z_s0 {ρ : Type} (n : Nat) (kr : Int × Unit → Option ρ) : Int → Int → (Int × Unit) → ((Int × Unit) → Option ρ) → Option ρ :=
  fun v5 x6 (v2, _) rec =>
  (bif (x6 : Int) != v2 then kr (x6, ())
  else rec (v2, ()))

theorem R_q16z_s0 {ρ : Type} (n : Nat) (kx : Int × Unit → Option ρ) (kr : Int × Unit → Option ρ) (l : List Int) (fuel : Nat) (v2 : Int) (hl : l.length ≤ 9223372036854775807) (hf : l.length < fuel) :
    iterN (fun rc => q16z_s0 n rc kx kr) fuel (v2, l, (l.length : Int), 0, ()) = foldK (F_q16z_s0 n kr) (fun (v2, _) => kx (v2, ())) 0 l (v2, ()) :=
  range_listM l (fun i (v2, _) => (v2, l, (l.length : Int), i, ())) _ _ _ (fun rec i s => rfl) hl fuel (v2, ()) hf

noncomputable def q16z (n : Nat) : (List Int) × Unit → Option (Int × Unit) :=
  fun (a1, _) =>
  iterN (fun rc9 => q16z_s0 n rc9 (fun (v7, _) => some (v7, ())) (fun (v8, _) => some (v8, ()))) (n) (0, a1, (a1.length : Int), 0, ())

noncomputable def q27z : Int × Unit → Option (Bool × Unit) :=
  fun (a1, _) => some ((a1 : Int) != a1, ())

noncomputable def q19z : Int × Int × Unit → Option (Int × Unit) :=
  fun (a1, a2, _) =>
  (q27z (a1, ())).bind fun (y3, _) =>
  (q27z (a2, ())).bind fun (y4, _) =>
  (bif y3 then
  (bif y4 then some (0, ())
  else some ((-1), ()))
  else
  (bif y4 then some (1, ())
  else
  (bif decide ((a1 : Int) < a2) then some ((-1), ())
  else
  (bif decide ((a1 : Int) > a2) then some (1, ())
  else some (0, ())))))

noncomputable def q30z : Ev.Node × Int × Unit → Option (Int × Unit) :=
  fun (a1, a2, _) =>
  (q19z (a1.id, a2, ())).bind fun (y3, _) => some (y3, ())

noncomputable def q2z_s0 {ρ : Type} (n : Nat) (rec : (List Ev.Node) × Int × Int × Int × Int × Unit → Option ρ) (kx : (List Ev.Node) × Int × Int × Int × Unit → Option ρ) (kr : Unit → Option ρ) : (List Ev.Node) × Int × Int × Int × Int × Unit → Option ρ :=
  fun (v3, v4, v5, v6, v7, _) =>
  (bif decide ((v6 : Int) < v7) then
  (ix v3 (IntKind.wrap .i64 (bshr .u64 (IntKind.wrap .u64 (IntKind.wrap .i64 (v6 + v7))) 1))).bind fun x8 =>
  (q30z ((Ev.Node.mk x8.id x8.labels x8.props), v4, ())).bind fun (y9, _) =>
  (bif decide ((y9 : Int) < 0) then rec (v3, v4, v5, IntKind.wrap .i64 ((IntKind.wrap .i64 (bshr .u64 (IntKind.wrap .u64 (IntKind.wrap .i64 (v6 + v7))) 1)) + 1), v7, ())
  else rec (v3, v4, v5, v6, IntKind.wrap .i64 (bshr .u64 (IntKind.wrap .u64 (IntKind.wrap .i64 (v6 + v7))) 1), ()))
  else kx (v3, v4, v5, v6, ()))

noncomputable def q2z (n : Nat) : (List Ev.Node) × Int × Unit → Option (Int × Bool × Unit) :=
  fun (a1, a2, _) =>
  iterN (fun rc16 => q2z_s0 n rc16 (fun (v10, v11, v12, v13, _) =>
  (bif decide ((v13 : Int) < v12) then
  (ix v10 v13).bind fun x14 =>
  (q30z ((Ev.Node.mk x14.id x14.labels x14.props), v11, ())).bind fun (y15, _) => some (v13, (y15 : Int) == 0, ())
  else some (v13, false, ()))) (fun (_) => none)) (n) (a1, a2, (a1.length : Int), 0, (a1.length : Int), ())

noncomputable def q43z (n : Nat) : Ev.Graph × Int × Unit → Option (Int × Unit) :=
  fun (a1, a2, _) =>
  (q2z n (a1.nodes, a2, ())).bind fun (y3, y4, _) =>
  (bif !y4 then some ((-1), ())
  else some (y3, ()))

noncomputable def q33z_s0 {ρ : Type} (n : Nat) (rec : Int × (List Ev.Node) × Int × Int × (Ev.Graph × Unit) × Unit → Option ρ) (kx : Int × (Ev.Graph × Unit) × Unit → Option ρ) (kr : Int × Unit → Option ρ) : Int × (List Ev.Node) × Int × Int × (Ev.Graph × Unit) × Unit → Option ρ :=
  fun (v2, v3, v4, v5, o6, _) =>
  (bif decide ((v5 : Int) < v4) then
  (ix v3 v5).bind fun x7 =>
  (bif decide ((x7.id : Int) ≤ v2) then kr (6, ())
  else
  (q31z n (x7.labels, ())).bind fun (y8, _) =>
  (q34z n (x7.props, ())).bind fun (y9, _) =>
  (q16z n (([y8, y9] : List Int), ())).bind fun (y10, _) =>
  (bif (y10 : Int) != 0 then kr (y10, ())
  else rec (x7.id, v3, v4, IntKind.wrap .i64 (v5 + 1), ((Ev.Graph.mk o6.1.nodes o6.1.edges o6.1.next), ()), ())))
  else kx (v2, ((Ev.Graph.mk o6.1.nodes o6.1.edges o6.1.next), ()), ()))

noncomputable def q33z_s2 {ρ : Type} (n : Nat) (rec : Int × Int × (List Ev.Edg) × Int × Int × (Ev.Graph × Unit) × Unit → Option ρ) (kx : Int × Int × (Ev.Graph × Unit) × Unit → Option ρ) (kr : Int × Unit → Option ρ) : Int × Int × (List Ev.Edg) × Int × Int × (Ev.Graph × Unit) × Unit → Option ρ :=
  fun (v14, v15, v16, v17, v18, o19, _) =>
  (bif decide ((v18 : Int) < v17) then
  (ix v16 v18).bind fun x20 =>
  (bif decide ((x20.id : Int) ≤ v14) then kr (6, ())
  else
  (q43z n ((Ev.Graph.mk o19.1.nodes o19.1.edges o19.1.next), x20.id, ())).bind fun (y21, _) =>
  (bif decide ((y21 : Int) ≥ 0) then kr (6, ())
  else
  (q44z n (x20.type, ())).bind fun (y22, _) =>
  (bif !y22 then kr (6, ())
  else
  (q43z n ((Ev.Graph.mk o19.1.nodes o19.1.edges o19.1.next), x20.src, ())).bind fun (y23, _) =>
  (bif decide ((y23 : Int) < 0) then kr (5, ())
  else
  (q43z n ((Ev.Graph.mk o19.1.nodes o19.1.edges o19.1.next), x20.dst, ())).bind fun (y24, _) =>
  (bif decide ((y24 : Int) < 0) then kr (5, ())
  else
  (q34z n (x20.props, ())).bind fun (y25, _) =>
  (bif (y25 : Int) != 0 then kr (y25, ())
  else rec (x20.id, v15, v16, v17, IntKind.wrap .i64 (v18 + 1), ((Ev.Graph.mk o19.1.nodes o19.1.edges o19.1.next), ()), ())))))))
  else kx (v14, v15, ((Ev.Graph.mk o19.1.nodes o19.1.edges o19.1.next), ()), ()))

noncomputable def F_q33z_s0 {ρ : Type} (n : Nat) (kr : Int × Unit → Option ρ) : Int → Ev.Node → (Int × (Ev.Graph × Unit) × Unit) → ((Int × (Ev.Graph × Unit) × Unit) → Option ρ) → Option ρ :=
  fun v5 x7 (v2, o6, _) rec =>
  (bif decide ((x7.id : Int) ≤ v2) then kr (6, ())
  else
  (q31z n (x7.labels, ())).bind fun (y8, _) =>
  (q34z n (x7.props, ())).bind fun (y9, _) =>
  (q16z n (([y8, y9] : List Int), ())).bind fun (y10, _) =>
  (bif (y10 : Int) != 0 then kr (y10, ())
  else rec (x7.id, ((Ev.Graph.mk o6.1.nodes o6.1.edges o6.1.next), ()), ())))

theorem R_q33z_s0 {ρ : Type} (n : Nat) (kx : Int × (Ev.Graph × Unit) × Unit → Option ρ) (kr : Int × Unit → Option ρ) (l : List Ev.Node) (fuel : Nat) (v2 : Int) (o6 : Ev.Graph × Unit) (hl : l.length ≤ 9223372036854775807) (hf : l.length < fuel) :
    iterN (fun rc => q33z_s0 n rc kx kr) fuel (v2, l, (l.length : Int), 0, o6, ()) = foldK (F_q33z_s0 n kr) (fun (v2, o6, _) => kx (v2, ((Ev.Graph.mk o6.1.nodes o6.1.edges o6.1.next), ()), ())) 0 l (v2, o6, ()) :=
  range_listM l (fun i (v2, o6, _) => (v2, l, (l.length : Int), i, o6, ())) _ _ _ (fun rec i s => rfl) hl fuel (v2, o6, ()) hf

noncomputable def F_q33z_s2 {ρ : Type} (n : Nat) (kr : Int × Unit → Option ρ) : Int → Ev.Edg → (Int × Int × (Ev.Graph × Unit) × Unit) → ((Int × Int × (Ev.Graph × Unit) × Unit) → Option ρ) → Option ρ :=
  fun v18 x20 (v14, v15, o19, _) rec =>
  (bif decide ((x20.id : Int) ≤ v14) then kr (6, ())
  else
  (q43z n ((Ev.Graph.mk o19.1.nodes o19.1.edges o19.1.next), x20.id, ())).bind fun (y21, _) =>
  (bif decide ((y21 : Int) ≥ 0) then kr (6, ())
  else
  (q44z n (x20.type, ())).bind fun (y22, _) =>
  (bif !y22 then kr (6, ())
  else
  (q43z n ((Ev.Graph.mk o19.1.nodes o19.1.edges o19.1.next), x20.src, ())).bind fun (y23, _) =>
  (bif decide ((y23 : Int) < 0) then kr (5, ())
  else
  (q43z n ((Ev.Graph.mk o19.1.nodes o19.1.edges o19.1.next), x20.dst, ())).bind fun (y24, _) =>
  (bif decide ((y24 : Int) < 0) then kr (5, ())
  else
  (q34z n (x20.props, ())).bind fun (y25, _) =>
  (bif (y25 : Int) != 0 then kr (y25, ())
  else rec (x20.id, v15, ((Ev.Graph.mk o19.1.nodes o19.1.edges o19.1.next), ()), ())))))))

theorem R_q33z_s2 {ρ : Type} (n : Nat) (kx : Int × Int × (Ev.Graph × Unit) × Unit → Option ρ) (kr : Int × Unit → Option ρ) (l : List Ev.Edg) (fuel : Nat) (v14 : Int) (v15 : Int) (o19 : Ev.Graph × Unit) (hl : l.length ≤ 9223372036854775807) (hf : l.length < fuel) :
    iterN (fun rc => q33z_s2 n rc kx kr) fuel (v14, v15, l, (l.length : Int), 0, o19, ()) = foldK (F_q33z_s2 n kr) (fun (v14, v15, o19, _) => kx (v14, v15, ((Ev.Graph.mk o19.1.nodes o19.1.edges o19.1.next), ()), ())) 0 l (v14, v15, o19, ()) :=
  range_listM l (fun i (v14, v15, o19, _) => (v14, v15, l, (l.length : Int), i, o19, ())) _ _ _ (fun rec i s => rfl) hl fuel (v14, v15, o19, ()) hf

noncomputable def q33z (n : Nat) : Ev.Graph × Unit → Option (Int × Unit) :=
  fun (a1, _) =>
  (bif (decide (((a1.nodes.length : Int) : Int) > 40)) || (decide (((a1.edges.length : Int) : Int) > 60)) then some (2, ())
  else
  iterN (fun rc31 => q33z_s0 n rc31 (fun (v11, o12, _) =>
  iterN (fun rc30 => q33z_s2 n rc30 (fun (v26, v27, o28, _) =>
  (bif (decide ((o28.1.next : Int) ≤ (if v26 > v27 then v26 else v27))) || (decide ((o28.1.next : Int) > 1099511627776)) then some (9, ())
  else some (0, ()))) (fun (v29, _) => some (v29, ()))) (n) (0, v11, o12.1.edges, (o12.1.edges.length : Int), 0, ((Ev.Graph.mk o12.1.nodes o12.1.edges o12.1.next), ()), ())) (fun (v13, _) => some (v13, ()))) (n) (0, a1.nodes, (a1.nodes.length : Int), 0, ((Ev.Graph.mk a1.nodes a1.edges a1.next), ()), ()))

noncomputable def q18z : Ev.Edg × Int × Unit → Option (Int × Unit) :=
  fun (a1, a2, _) =>
  (q19z (a1.id, a2, ())).bind fun (y3, _) => some (y3, ())

noncomputable def q1z_s0 {ρ : Type} (n : Nat) (rec : (List Ev.Edg) × Int × Int × Int × Int × Unit → Option ρ) (kx : (List Ev.Edg) × Int × Int × Int × Unit → Option ρ) (kr : Unit → Option ρ) : (List Ev.Edg) × Int × Int × Int × Int × Unit → Option ρ :=
  fun (v3, v4, v5, v6, v7, _) =>
  (bif decide ((v6 : Int) < v7) then
  (ix v3 (IntKind.wrap .i64 (bshr .u64 (IntKind.wrap .u64 (IntKind.wrap .i64 (v6 + v7))) 1))).bind fun x8 =>
  (q18z ((Ev.Edg.mk x8.id x8.src x8.dst x8.type x8.props), v4, ())).bind fun (y9, _) =>
  (bif decide ((y9 : Int) < 0) then rec (v3, v4, v5, IntKind.wrap .i64 ((IntKind.wrap .i64 (bshr .u64 (IntKind.wrap .u64 (IntKind.wrap .i64 (v6 + v7))) 1)) + 1), v7, ())
  else rec (v3, v4, v5, v6, IntKind.wrap .i64 (bshr .u64 (IntKind.wrap .u64 (IntKind.wrap .i64 (v6 + v7))) 1), ()))
  else kx (v3, v4, v5, v6, ()))

noncomputable def q1z (n : Nat) : (List Ev.Edg) × Int × Unit → Option (Int × Bool × Unit) :=
  fun (a1, a2, _) =>
  iterN (fun rc16 => q1z_s0 n rc16 (fun (v10, v11, v12, v13, _) =>
  (bif decide ((v13 : Int) < v12) then
  (ix v10 v13).bind fun x14 =>
  (q18z ((Ev.Edg.mk x14.id x14.src x14.dst x14.type x14.props), v11, ())).bind fun (y15, _) => some (v13, (y15 : Int) == 0, ())
  else some (v13, false, ()))) (fun (_) => none)) (n) (a1, a2, (a1.length : Int), 0, (a1.length : Int), ())

noncomputable def q22z (n : Nat) : Ev.Graph × Int × Unit → Option (Int × Unit) :=
  fun (a1, a2, _) =>
  (q1z n (a1.edges, a2, ())).bind fun (y3, y4, _) =>
  (bif !y4 then some ((-1), ())
  else some (y3, ()))

noncomputable def q5z_s0 {ρ : Type} (n : Nat) (rec : (List ByteArray) × ByteArray × Int × Int × Unit → Option ρ) (kx : Unit → Option ρ) (kr : Int × Unit → Option ρ) : (List ByteArray) × ByteArray × Int × Int × Unit → Option ρ :=
  fun (v3, v4, v5, v6, _) =>
  (bif decide ((v6 : Int) < v5) then
  (ix v3 v6).bind fun x7 =>
  (bif seq v4 x7 then kr (v6, ())
  else rec (v3, v4, v5, IntKind.wrap .i64 (v6 + 1), ()))
  else kx (()))

noncomputable def F_q5z_s0 {ρ : Type} (n : Nat) (kr : Int × Unit → Option ρ) : Int → ByteArray → (ByteArray × Unit) → ((ByteArray × Unit) → Option ρ) → Option ρ :=
  fun v6 x7 (v4, _) rec =>
  (bif seq v4 x7 then kr (v6, ())
  else rec (v4, ()))

theorem R_q5z_s0 {ρ : Type} (n : Nat) (kx : Unit → Option ρ) (kr : Int × Unit → Option ρ) (l : List ByteArray) (fuel : Nat) (v4 : ByteArray) (hl : l.length ≤ 9223372036854775807) (hf : l.length < fuel) :
    iterN (fun rc => q5z_s0 n rc kx kr) fuel (l, v4, (l.length : Int), 0, ()) = foldK (F_q5z_s0 n kr) (fun (v4, _) => kx (())) 0 l (v4, ()) :=
  range_listM l (fun i (v4, _) => (l, v4, (l.length : Int), i, ())) _ _ _ (fun rec i s => rfl) hl fuel (v4, ()) hf

noncomputable def q5z (n : Nat) : (List ByteArray) × ByteArray × Unit → Option (Int × Unit) :=
  fun (a1, a2, _) =>
  iterN (fun rc9 => q5z_s0 n rc9 (fun (_) => some ((-1), ())) (fun (v8, _) => some (v8, ()))) (n) (a1, a2, (a1.length : Int), 0, ())

noncomputable def q3z (n : Nat) : (List ByteArray) × ByteArray × Unit → Option (Bool × Unit) :=
  fun (a1, a2, _) =>
  (q5z n (a1, a2, ())).bind fun (y3, _) => some (decide ((y3 : Int) ≥ 0), ())

noncomputable def q29z (n : Nat) : ByteArray × Unit → Option (Bool × Unit) :=
  fun (a1, _) =>
  (q3z n (([(⟨#[109, 97, 116, 99, 104]⟩ : ByteArray), (⟨#[119, 104, 101, 114, 101]⟩ : ByteArray), (⟨#[114, 101, 116, 117, 114, 110]⟩ : ByteArray), (⟨#[100, 105, 115, 116, 105, 110, 99, 116]⟩ : ByteArray), (⟨#[97, 115]⟩ : ByteArray), (⟨#[97, 110, 100]⟩ : ByteArray), (⟨#[111, 114]⟩ : ByteArray), (⟨#[110, 111, 116]⟩ : ByteArray), (⟨#[105, 110]⟩ : ByteArray), (⟨#[105, 115]⟩ : ByteArray), (⟨#[110, 117, 108, 108]⟩ : ByteArray), (⟨#[116, 114, 117, 101]⟩ : ByteArray), (⟨#[102, 97, 108, 115, 101]⟩ : ByteArray), (⟨#[99, 111, 117, 110, 116]⟩ : ByteArray), (⟨#[115, 117, 109]⟩ : ByteArray), (⟨#[109, 105, 110]⟩ : ByteArray), (⟨#[109, 97, 120]⟩ : ByteArray), (⟨#[115, 105, 122, 101]⟩ : ByteArray), (⟨#[104, 101, 97, 100]⟩ : ByteArray), (⟨#[99, 111, 97, 108, 101, 115, 99, 101]⟩ : ByteArray), (⟨#[105, 100]⟩ : ByteArray), (⟨#[116, 121, 112, 101]⟩ : ByteArray)] : List ByteArray), a1, ())).bind fun (y2, _) => some (y2, ())

noncomputable def term_Name (n : Nat) : ByteArray × Unit → Option (Bool × Unit) :=
  fun (a1, _) =>
  (q44z n (a1, ())).bind fun (y2, _) =>
  (bif y2 then
  (q29z n (a1, ())).bind fun (y3, _) => some (!y3, ())
  else some (false, ()))

noncomputable def q46z : ByteArray × Unit → Option (Int × Bool × Unit) :=
  fun (a1, _) =>
  (bif seq a1 (⟨#[43]⟩ : ByteArray) then
  (bif seq a1 (⟨#[43]⟩ : ByteArray) then some (2, true, ())
  else
  (bif seq a1 (⟨#[110, 111, 116]⟩ : ByteArray) then
  (bif seq a1 (⟨#[110, 111, 116]⟩ : ByteArray) then some (1, true, ())
  else
  (bif seq a1 (⟨#[99, 111, 97, 108, 101, 115, 99, 101]⟩ : ByteArray) then
  (bif seq a1 (⟨#[99, 111, 97, 108, 101, 115, 99, 101]⟩ : ByteArray) then some ((-1), true, ())
  else some (0, false, ()))
  else
  (bif seq a1 (⟨#[108, 105, 115, 116]⟩ : ByteArray) then some ((-1), true, ())
  else some (0, false, ()))))
  else
  (bif seq a1 (⟨#[110, 117, 108, 108]⟩ : ByteArray) then
  (bif seq a1 (⟨#[110, 117, 108, 108]⟩ : ByteArray) then some (1, true, ())
  else
  (bif seq a1 (⟨#[99, 111, 97, 108, 101, 115, 99, 101]⟩ : ByteArray) then
  (bif seq a1 (⟨#[99, 111, 97, 108, 101, 115, 99, 101]⟩ : ByteArray) then some ((-1), true, ())
  else some (0, false, ()))
  else
  (bif seq a1 (⟨#[108, 105, 115, 116]⟩ : ByteArray) then some ((-1), true, ())
  else some (0, false, ()))))
  else
  (bif seq a1 (⟨#[115, 105, 122, 101]⟩ : ByteArray) then
  (bif seq a1 (⟨#[115, 105, 122, 101]⟩ : ByteArray) then some (1, true, ())
  else
  (bif seq a1 (⟨#[99, 111, 97, 108, 101, 115, 99, 101]⟩ : ByteArray) then
  (bif seq a1 (⟨#[99, 111, 97, 108, 101, 115, 99, 101]⟩ : ByteArray) then some ((-1), true, ())
  else some (0, false, ()))
  else
  (bif seq a1 (⟨#[108, 105, 115, 116]⟩ : ByteArray) then some ((-1), true, ())
  else some (0, false, ()))))
  else
  (bif seq a1 (⟨#[104, 101, 97, 100]⟩ : ByteArray) then
  (bif seq a1 (⟨#[104, 101, 97, 100]⟩ : ByteArray) then some (1, true, ())
  else
  (bif seq a1 (⟨#[99, 111, 97, 108, 101, 115, 99, 101]⟩ : ByteArray) then
  (bif seq a1 (⟨#[99, 111, 97, 108, 101, 115, 99, 101]⟩ : ByteArray) then some ((-1), true, ())
  else some (0, false, ()))
  else
  (bif seq a1 (⟨#[108, 105, 115, 116]⟩ : ByteArray) then some ((-1), true, ())
  else some (0, false, ()))))
  else
  (bif seq a1 (⟨#[105, 100]⟩ : ByteArray) then
  (bif seq a1 (⟨#[105, 100]⟩ : ByteArray) then some (1, true, ())
  else
  (bif seq a1 (⟨#[99, 111, 97, 108, 101, 115, 99, 101]⟩ : ByteArray) then
  (bif seq a1 (⟨#[99, 111, 97, 108, 101, 115, 99, 101]⟩ : ByteArray) then some ((-1), true, ())
  else some (0, false, ()))
  else
  (bif seq a1 (⟨#[108, 105, 115, 116]⟩ : ByteArray) then some ((-1), true, ())
  else some (0, false, ()))))
  else
  (bif seq a1 (⟨#[116, 121, 112, 101]⟩ : ByteArray) then some (1, true, ())
  else
  (bif seq a1 (⟨#[99, 111, 97, 108, 101, 115, 99, 101]⟩ : ByteArray) then
  (bif seq a1 (⟨#[99, 111, 97, 108, 101, 115, 99, 101]⟩ : ByteArray) then some ((-1), true, ())
  else some (0, false, ()))
  else
  (bif seq a1 (⟨#[108, 105, 115, 116]⟩ : ByteArray) then some ((-1), true, ())
  else some (0, false, ()))))))))))
  else
  (bif seq a1 (⟨#[45]⟩ : ByteArray) then
  (bif seq a1 (⟨#[45]⟩ : ByteArray) then some (2, true, ())
  else
  (bif seq a1 (⟨#[110, 111, 116]⟩ : ByteArray) then
  (bif seq a1 (⟨#[110, 111, 116]⟩ : ByteArray) then some (1, true, ())
  else
  (bif seq a1 (⟨#[99, 111, 97, 108, 101, 115, 99, 101]⟩ : ByteArray) then
  (bif seq a1 (⟨#[99, 111, 97, 108, 101, 115, 99, 101]⟩ : ByteArray) then some ((-1), true, ())
  else some (0, false, ()))
  else
  (bif seq a1 (⟨#[108, 105, 115, 116]⟩ : ByteArray) then some ((-1), true, ())
  else some (0, false, ()))))
  else
  (bif seq a1 (⟨#[110, 117, 108, 108]⟩ : ByteArray) then
  (bif seq a1 (⟨#[110, 117, 108, 108]⟩ : ByteArray) then some (1, true, ())
  else
  (bif seq a1 (⟨#[99, 111, 97, 108, 101, 115, 99, 101]⟩ : ByteArray) then
  (bif seq a1 (⟨#[99, 111, 97, 108, 101, 115, 99, 101]⟩ : ByteArray) then some ((-1), true, ())
  else some (0, false, ()))
  else
  (bif seq a1 (⟨#[108, 105, 115, 116]⟩ : ByteArray) then some ((-1), true, ())
  else some (0, false, ()))))
  else
  (bif seq a1 (⟨#[115, 105, 122, 101]⟩ : ByteArray) then
  (bif seq a1 (⟨#[115, 105, 122, 101]⟩ : ByteArray) then some (1, true, ())
  else
  (bif seq a1 (⟨#[99, 111, 97, 108, 101, 115, 99, 101]⟩ : ByteArray) then
  (bif seq a1 (⟨#[99, 111, 97, 108, 101, 115, 99, 101]⟩ : ByteArray) then some ((-1), true, ())
  else some (0, false, ()))
  else
  (bif seq a1 (⟨#[108, 105, 115, 116]⟩ : ByteArray) then some ((-1), true, ())
  else some (0, false, ()))))
  else
  (bif seq a1 (⟨#[104, 101, 97, 100]⟩ : ByteArray) then
  (bif seq a1 (⟨#[104, 101, 97, 100]⟩ : ByteArray) then some (1, true, ())
  else
  (bif seq a1 (⟨#[99, 111, 97, 108, 101, 115, 99, 101]⟩ : ByteArray) then
  (bif seq a1 (⟨#[99, 111, 97, 108, 101, 115, 99, 101]⟩ : ByteArray) then some ((-1), true, ())
  else some (0, false, ()))
  else
  (bif seq a1 (⟨#[108, 105, 115, 116]⟩ : ByteArray) then some ((-1), true, ())
  else some (0, false, ()))))
  else
  (bif seq a1 (⟨#[105, 100]⟩ : ByteArray) then
  (bif seq a1 (⟨#[105, 100]⟩ : ByteArray) then some (1, true, ())
  else
  (bif seq a1 (⟨#[99, 111, 97, 108, 101, 115, 99, 101]⟩ : ByteArray) then
  (bif seq a1 (⟨#[99, 111, 97, 108, 101, 115, 99, 101]⟩ : ByteArray) then some ((-1), true, ())
  else some (0, false, ()))
  else
  (bif seq a1 (⟨#[108, 105, 115, 116]⟩ : ByteArray) then some ((-1), true, ())
  else some (0, false, ()))))
  else
  (bif seq a1 (⟨#[116, 121, 112, 101]⟩ : ByteArray) then some (1, true, ())
  else
  (bif seq a1 (⟨#[99, 111, 97, 108, 101, 115, 99, 101]⟩ : ByteArray) then
  (bif seq a1 (⟨#[99, 111, 97, 108, 101, 115, 99, 101]⟩ : ByteArray) then some ((-1), true, ())
  else some (0, false, ()))
  else
  (bif seq a1 (⟨#[108, 105, 115, 116]⟩ : ByteArray) then some ((-1), true, ())
  else some (0, false, ()))))))))))
  else
  (bif seq a1 (⟨#[42]⟩ : ByteArray) then
  (bif seq a1 (⟨#[42]⟩ : ByteArray) then some (2, true, ())
  else
  (bif seq a1 (⟨#[110, 111, 116]⟩ : ByteArray) then
  (bif seq a1 (⟨#[110, 111, 116]⟩ : ByteArray) then some (1, true, ())
  else
  (bif seq a1 (⟨#[99, 111, 97, 108, 101, 115, 99, 101]⟩ : ByteArray) then
  (bif seq a1 (⟨#[99, 111, 97, 108, 101, 115, 99, 101]⟩ : ByteArray) then some ((-1), true, ())
  else some (0, false, ()))
  else
  (bif seq a1 (⟨#[108, 105, 115, 116]⟩ : ByteArray) then some ((-1), true, ())
  else some (0, false, ()))))
  else
  (bif seq a1 (⟨#[110, 117, 108, 108]⟩ : ByteArray) then
  (bif seq a1 (⟨#[110, 117, 108, 108]⟩ : ByteArray) then some (1, true, ())
  else
  (bif seq a1 (⟨#[99, 111, 97, 108, 101, 115, 99, 101]⟩ : ByteArray) then
  (bif seq a1 (⟨#[99, 111, 97, 108, 101, 115, 99, 101]⟩ : ByteArray) then some ((-1), true, ())
  else some (0, false, ()))
  else
  (bif seq a1 (⟨#[108, 105, 115, 116]⟩ : ByteArray) then some ((-1), true, ())
  else some (0, false, ()))))
  else
  (bif seq a1 (⟨#[115, 105, 122, 101]⟩ : ByteArray) then
  (bif seq a1 (⟨#[115, 105, 122, 101]⟩ : ByteArray) then some (1, true, ())
  else
  (bif seq a1 (⟨#[99, 111, 97, 108, 101, 115, 99, 101]⟩ : ByteArray) then
  (bif seq a1 (⟨#[99, 111, 97, 108, 101, 115, 99, 101]⟩ : ByteArray) then some ((-1), true, ())
  else some (0, false, ()))
  else
  (bif seq a1 (⟨#[108, 105, 115, 116]⟩ : ByteArray) then some ((-1), true, ())
  else some (0, false, ()))))
  else
  (bif seq a1 (⟨#[104, 101, 97, 100]⟩ : ByteArray) then
  (bif seq a1 (⟨#[104, 101, 97, 100]⟩ : ByteArray) then some (1, true, ())
  else
  (bif seq a1 (⟨#[99, 111, 97, 108, 101, 115, 99, 101]⟩ : ByteArray) then
  (bif seq a1 (⟨#[99, 111, 97, 108, 101, 115, 99, 101]⟩ : ByteArray) then some ((-1), true, ())
  else some (0, false, ()))
  else
  (bif seq a1 (⟨#[108, 105, 115, 116]⟩ : ByteArray) then some ((-1), true, ())
  else some (0, false, ()))))
  else
  (bif seq a1 (⟨#[105, 100]⟩ : ByteArray) then
  (bif seq a1 (⟨#[105, 100]⟩ : ByteArray) then some (1, true, ())
  else
  (bif seq a1 (⟨#[99, 111, 97, 108, 101, 115, 99, 101]⟩ : ByteArray) then
  (bif seq a1 (⟨#[99, 111, 97, 108, 101, 115, 99, 101]⟩ : ByteArray) then some ((-1), true, ())
  else some (0, false, ()))
  else
  (bif seq a1 (⟨#[108, 105, 115, 116]⟩ : ByteArray) then some ((-1), true, ())
  else some (0, false, ()))))
  else
  (bif seq a1 (⟨#[116, 121, 112, 101]⟩ : ByteArray) then some (1, true, ())
  else
  (bif seq a1 (⟨#[99, 111, 97, 108, 101, 115, 99, 101]⟩ : ByteArray) then
  (bif seq a1 (⟨#[99, 111, 97, 108, 101, 115, 99, 101]⟩ : ByteArray) then some ((-1), true, ())
  else some (0, false, ()))
  else
  (bif seq a1 (⟨#[108, 105, 115, 116]⟩ : ByteArray) then some ((-1), true, ())
  else some (0, false, ()))))))))))
  else
  (bif seq a1 (⟨#[61]⟩ : ByteArray) then
  (bif seq a1 (⟨#[61]⟩ : ByteArray) then some (2, true, ())
  else
  (bif seq a1 (⟨#[110, 111, 116]⟩ : ByteArray) then
  (bif seq a1 (⟨#[110, 111, 116]⟩ : ByteArray) then some (1, true, ())
  else
  (bif seq a1 (⟨#[99, 111, 97, 108, 101, 115, 99, 101]⟩ : ByteArray) then
  (bif seq a1 (⟨#[99, 111, 97, 108, 101, 115, 99, 101]⟩ : ByteArray) then some ((-1), true, ())
  else some (0, false, ()))
  else
  (bif seq a1 (⟨#[108, 105, 115, 116]⟩ : ByteArray) then some ((-1), true, ())
  else some (0, false, ()))))
  else
  (bif seq a1 (⟨#[110, 117, 108, 108]⟩ : ByteArray) then
  (bif seq a1 (⟨#[110, 117, 108, 108]⟩ : ByteArray) then some (1, true, ())
  else
  (bif seq a1 (⟨#[99, 111, 97, 108, 101, 115, 99, 101]⟩ : ByteArray) then
  (bif seq a1 (⟨#[99, 111, 97, 108, 101, 115, 99, 101]⟩ : ByteArray) then some ((-1), true, ())
  else some (0, false, ()))
  else
  (bif seq a1 (⟨#[108, 105, 115, 116]⟩ : ByteArray) then some ((-1), true, ())
  else some (0, false, ()))))
  else
  (bif seq a1 (⟨#[115, 105, 122, 101]⟩ : ByteArray) then
  (bif seq a1 (⟨#[115, 105, 122, 101]⟩ : ByteArray) then some (1, true, ())
  else
  (bif seq a1 (⟨#[99, 111, 97, 108, 101, 115, 99, 101]⟩ : ByteArray) then
  (bif seq a1 (⟨#[99, 111, 97, 108, 101, 115, 99, 101]⟩ : ByteArray) then some ((-1), true, ())
  else some (0, false, ()))
  else
  (bif seq a1 (⟨#[108, 105, 115, 116]⟩ : ByteArray) then some ((-1), true, ())
  else some (0, false, ()))))
  else
  (bif seq a1 (⟨#[104, 101, 97, 100]⟩ : ByteArray) then
  (bif seq a1 (⟨#[104, 101, 97, 100]⟩ : ByteArray) then some (1, true, ())
  else
  (bif seq a1 (⟨#[99, 111, 97, 108, 101, 115, 99, 101]⟩ : ByteArray) then
  (bif seq a1 (⟨#[99, 111, 97, 108, 101, 115, 99, 101]⟩ : ByteArray) then some ((-1), true, ())
  else some (0, false, ()))
  else
  (bif seq a1 (⟨#[108, 105, 115, 116]⟩ : ByteArray) then some ((-1), true, ())
  else some (0, false, ()))))
  else
  (bif seq a1 (⟨#[105, 100]⟩ : ByteArray) then
  (bif seq a1 (⟨#[105, 100]⟩ : ByteArray) then some (1, true, ())
  else
  (bif seq a1 (⟨#[99, 111, 97, 108, 101, 115, 99, 101]⟩ : ByteArray) then
  (bif seq a1 (⟨#[99, 111, 97, 108, 101, 115, 99, 101]⟩ : ByteArray) then some ((-1), true, ())
  else some (0, false, ()))
  else
  (bif seq a1 (⟨#[108, 105, 115, 116]⟩ : ByteArray) then some ((-1), true, ())
  else some (0, false, ()))))
  else
  (bif seq a1 (⟨#[116, 121, 112, 101]⟩ : ByteArray) then some (1, true, ())
  else
  (bif seq a1 (⟨#[99, 111, 97, 108, 101, 115, 99, 101]⟩ : ByteArray) then
  (bif seq a1 (⟨#[99, 111, 97, 108, 101, 115, 99, 101]⟩ : ByteArray) then some ((-1), true, ())
  else some (0, false, ()))
  else
  (bif seq a1 (⟨#[108, 105, 115, 116]⟩ : ByteArray) then some ((-1), true, ())
  else some (0, false, ()))))))))))
  else
  (bif seq a1 (⟨#[60]⟩ : ByteArray) then
  (bif seq a1 (⟨#[60]⟩ : ByteArray) then some (2, true, ())
  else
  (bif seq a1 (⟨#[110, 111, 116]⟩ : ByteArray) then
  (bif seq a1 (⟨#[110, 111, 116]⟩ : ByteArray) then some (1, true, ())
  else
  (bif seq a1 (⟨#[99, 111, 97, 108, 101, 115, 99, 101]⟩ : ByteArray) then
  (bif seq a1 (⟨#[99, 111, 97, 108, 101, 115, 99, 101]⟩ : ByteArray) then some ((-1), true, ())
  else some (0, false, ()))
  else
  (bif seq a1 (⟨#[108, 105, 115, 116]⟩ : ByteArray) then some ((-1), true, ())
  else some (0, false, ()))))
  else
  (bif seq a1 (⟨#[110, 117, 108, 108]⟩ : ByteArray) then
  (bif seq a1 (⟨#[110, 117, 108, 108]⟩ : ByteArray) then some (1, true, ())
  else
  (bif seq a1 (⟨#[99, 111, 97, 108, 101, 115, 99, 101]⟩ : ByteArray) then
  (bif seq a1 (⟨#[99, 111, 97, 108, 101, 115, 99, 101]⟩ : ByteArray) then some ((-1), true, ())
  else some (0, false, ()))
  else
  (bif seq a1 (⟨#[108, 105, 115, 116]⟩ : ByteArray) then some ((-1), true, ())
  else some (0, false, ()))))
  else
  (bif seq a1 (⟨#[115, 105, 122, 101]⟩ : ByteArray) then
  (bif seq a1 (⟨#[115, 105, 122, 101]⟩ : ByteArray) then some (1, true, ())
  else
  (bif seq a1 (⟨#[99, 111, 97, 108, 101, 115, 99, 101]⟩ : ByteArray) then
  (bif seq a1 (⟨#[99, 111, 97, 108, 101, 115, 99, 101]⟩ : ByteArray) then some ((-1), true, ())
  else some (0, false, ()))
  else
  (bif seq a1 (⟨#[108, 105, 115, 116]⟩ : ByteArray) then some ((-1), true, ())
  else some (0, false, ()))))
  else
  (bif seq a1 (⟨#[104, 101, 97, 100]⟩ : ByteArray) then
  (bif seq a1 (⟨#[104, 101, 97, 100]⟩ : ByteArray) then some (1, true, ())
  else
  (bif seq a1 (⟨#[99, 111, 97, 108, 101, 115, 99, 101]⟩ : ByteArray) then
  (bif seq a1 (⟨#[99, 111, 97, 108, 101, 115, 99, 101]⟩ : ByteArray) then some ((-1), true, ())
  else some (0, false, ()))
  else
  (bif seq a1 (⟨#[108, 105, 115, 116]⟩ : ByteArray) then some ((-1), true, ())
  else some (0, false, ()))))
  else
  (bif seq a1 (⟨#[105, 100]⟩ : ByteArray) then
  (bif seq a1 (⟨#[105, 100]⟩ : ByteArray) then some (1, true, ())
  else
  (bif seq a1 (⟨#[99, 111, 97, 108, 101, 115, 99, 101]⟩ : ByteArray) then
  (bif seq a1 (⟨#[99, 111, 97, 108, 101, 115, 99, 101]⟩ : ByteArray) then some ((-1), true, ())
  else some (0, false, ()))
  else
  (bif seq a1 (⟨#[108, 105, 115, 116]⟩ : ByteArray) then some ((-1), true, ())
  else some (0, false, ()))))
  else
  (bif seq a1 (⟨#[116, 121, 112, 101]⟩ : ByteArray) then some (1, true, ())
  else
  (bif seq a1 (⟨#[99, 111, 97, 108, 101, 115, 99, 101]⟩ : ByteArray) then
  (bif seq a1 (⟨#[99, 111, 97, 108, 101, 115, 99, 101]⟩ : ByteArray) then some ((-1), true, ())
  else some (0, false, ()))
  else
  (bif seq a1 (⟨#[108, 105, 115, 116]⟩ : ByteArray) then some ((-1), true, ())
  else some (0, false, ()))))))))))
  else
  (bif seq a1 (⟨#[60, 61]⟩ : ByteArray) then
  (bif seq a1 (⟨#[60, 61]⟩ : ByteArray) then some (2, true, ())
  else
  (bif seq a1 (⟨#[110, 111, 116]⟩ : ByteArray) then
  (bif seq a1 (⟨#[110, 111, 116]⟩ : ByteArray) then some (1, true, ())
  else
  (bif seq a1 (⟨#[99, 111, 97, 108, 101, 115, 99, 101]⟩ : ByteArray) then
  (bif seq a1 (⟨#[99, 111, 97, 108, 101, 115, 99, 101]⟩ : ByteArray) then some ((-1), true, ())
  else some (0, false, ()))
  else
  (bif seq a1 (⟨#[108, 105, 115, 116]⟩ : ByteArray) then some ((-1), true, ())
  else some (0, false, ()))))
  else
  (bif seq a1 (⟨#[110, 117, 108, 108]⟩ : ByteArray) then
  (bif seq a1 (⟨#[110, 117, 108, 108]⟩ : ByteArray) then some (1, true, ())
  else
  (bif seq a1 (⟨#[99, 111, 97, 108, 101, 115, 99, 101]⟩ : ByteArray) then
  (bif seq a1 (⟨#[99, 111, 97, 108, 101, 115, 99, 101]⟩ : ByteArray) then some ((-1), true, ())
  else some (0, false, ()))
  else
  (bif seq a1 (⟨#[108, 105, 115, 116]⟩ : ByteArray) then some ((-1), true, ())
  else some (0, false, ()))))
  else
  (bif seq a1 (⟨#[115, 105, 122, 101]⟩ : ByteArray) then
  (bif seq a1 (⟨#[115, 105, 122, 101]⟩ : ByteArray) then some (1, true, ())
  else
  (bif seq a1 (⟨#[99, 111, 97, 108, 101, 115, 99, 101]⟩ : ByteArray) then
  (bif seq a1 (⟨#[99, 111, 97, 108, 101, 115, 99, 101]⟩ : ByteArray) then some ((-1), true, ())
  else some (0, false, ()))
  else
  (bif seq a1 (⟨#[108, 105, 115, 116]⟩ : ByteArray) then some ((-1), true, ())
  else some (0, false, ()))))
  else
  (bif seq a1 (⟨#[104, 101, 97, 100]⟩ : ByteArray) then
  (bif seq a1 (⟨#[104, 101, 97, 100]⟩ : ByteArray) then some (1, true, ())
  else
  (bif seq a1 (⟨#[99, 111, 97, 108, 101, 115, 99, 101]⟩ : ByteArray) then
  (bif seq a1 (⟨#[99, 111, 97, 108, 101, 115, 99, 101]⟩ : ByteArray) then some ((-1), true, ())
  else some (0, false, ()))
  else
  (bif seq a1 (⟨#[108, 105, 115, 116]⟩ : ByteArray) then some ((-1), true, ())
  else some (0, false, ()))))
  else
  (bif seq a1 (⟨#[105, 100]⟩ : ByteArray) then
  (bif seq a1 (⟨#[105, 100]⟩ : ByteArray) then some (1, true, ())
  else
  (bif seq a1 (⟨#[99, 111, 97, 108, 101, 115, 99, 101]⟩ : ByteArray) then
  (bif seq a1 (⟨#[99, 111, 97, 108, 101, 115, 99, 101]⟩ : ByteArray) then some ((-1), true, ())
  else some (0, false, ()))
  else
  (bif seq a1 (⟨#[108, 105, 115, 116]⟩ : ByteArray) then some ((-1), true, ())
  else some (0, false, ()))))
  else
  (bif seq a1 (⟨#[116, 121, 112, 101]⟩ : ByteArray) then some (1, true, ())
  else
  (bif seq a1 (⟨#[99, 111, 97, 108, 101, 115, 99, 101]⟩ : ByteArray) then
  (bif seq a1 (⟨#[99, 111, 97, 108, 101, 115, 99, 101]⟩ : ByteArray) then some ((-1), true, ())
  else some (0, false, ()))
  else
  (bif seq a1 (⟨#[108, 105, 115, 116]⟩ : ByteArray) then some ((-1), true, ())
  else some (0, false, ()))))))))))
  else
  (bif seq a1 (⟨#[97, 110, 100]⟩ : ByteArray) then
  (bif seq a1 (⟨#[97, 110, 100]⟩ : ByteArray) then some (2, true, ())
  else
  (bif seq a1 (⟨#[110, 111, 116]⟩ : ByteArray) then
  (bif seq a1 (⟨#[110, 111, 116]⟩ : ByteArray) then some (1, true, ())
  else
  (bif seq a1 (⟨#[99, 111, 97, 108, 101, 115, 99, 101]⟩ : ByteArray) then
  (bif seq a1 (⟨#[99, 111, 97, 108, 101, 115, 99, 101]⟩ : ByteArray) then some ((-1), true, ())
  else some (0, false, ()))
  else
  (bif seq a1 (⟨#[108, 105, 115, 116]⟩ : ByteArray) then some ((-1), true, ())
  else some (0, false, ()))))
  else
  (bif seq a1 (⟨#[110, 117, 108, 108]⟩ : ByteArray) then
  (bif seq a1 (⟨#[110, 117, 108, 108]⟩ : ByteArray) then some (1, true, ())
  else
  (bif seq a1 (⟨#[99, 111, 97, 108, 101, 115, 99, 101]⟩ : ByteArray) then
  (bif seq a1 (⟨#[99, 111, 97, 108, 101, 115, 99, 101]⟩ : ByteArray) then some ((-1), true, ())
  else some (0, false, ()))
  else
  (bif seq a1 (⟨#[108, 105, 115, 116]⟩ : ByteArray) then some ((-1), true, ())
  else some (0, false, ()))))
  else
  (bif seq a1 (⟨#[115, 105, 122, 101]⟩ : ByteArray) then
  (bif seq a1 (⟨#[115, 105, 122, 101]⟩ : ByteArray) then some (1, true, ())
  else
  (bif seq a1 (⟨#[99, 111, 97, 108, 101, 115, 99, 101]⟩ : ByteArray) then
  (bif seq a1 (⟨#[99, 111, 97, 108, 101, 115, 99, 101]⟩ : ByteArray) then some ((-1), true, ())
  else some (0, false, ()))
  else
  (bif seq a1 (⟨#[108, 105, 115, 116]⟩ : ByteArray) then some ((-1), true, ())
  else some (0, false, ()))))
  else
  (bif seq a1 (⟨#[104, 101, 97, 100]⟩ : ByteArray) then
  (bif seq a1 (⟨#[104, 101, 97, 100]⟩ : ByteArray) then some (1, true, ())
  else
  (bif seq a1 (⟨#[99, 111, 97, 108, 101, 115, 99, 101]⟩ : ByteArray) then
  (bif seq a1 (⟨#[99, 111, 97, 108, 101, 115, 99, 101]⟩ : ByteArray) then some ((-1), true, ())
  else some (0, false, ()))
  else
  (bif seq a1 (⟨#[108, 105, 115, 116]⟩ : ByteArray) then some ((-1), true, ())
  else some (0, false, ()))))
  else
  (bif seq a1 (⟨#[105, 100]⟩ : ByteArray) then
  (bif seq a1 (⟨#[105, 100]⟩ : ByteArray) then some (1, true, ())
  else
  (bif seq a1 (⟨#[99, 111, 97, 108, 101, 115, 99, 101]⟩ : ByteArray) then
  (bif seq a1 (⟨#[99, 111, 97, 108, 101, 115, 99, 101]⟩ : ByteArray) then some ((-1), true, ())
  else some (0, false, ()))
  else
  (bif seq a1 (⟨#[108, 105, 115, 116]⟩ : ByteArray) then some ((-1), true, ())
  else some (0, false, ()))))
  else
  (bif seq a1 (⟨#[116, 121, 112, 101]⟩ : ByteArray) then some (1, true, ())
  else
  (bif seq a1 (⟨#[99, 111, 97, 108, 101, 115, 99, 101]⟩ : ByteArray) then
  (bif seq a1 (⟨#[99, 111, 97, 108, 101, 115, 99, 101]⟩ : ByteArray) then some ((-1), true, ())
  else some (0, false, ()))
  else
  (bif seq a1 (⟨#[108, 105, 115, 116]⟩ : ByteArray) then some ((-1), true, ())
  else some (0, false, ()))))))))))
  else
  (bif seq a1 (⟨#[111, 114]⟩ : ByteArray) then
  (bif seq a1 (⟨#[111, 114]⟩ : ByteArray) then some (2, true, ())
  else
  (bif seq a1 (⟨#[110, 111, 116]⟩ : ByteArray) then
  (bif seq a1 (⟨#[110, 111, 116]⟩ : ByteArray) then some (1, true, ())
  else
  (bif seq a1 (⟨#[99, 111, 97, 108, 101, 115, 99, 101]⟩ : ByteArray) then
  (bif seq a1 (⟨#[99, 111, 97, 108, 101, 115, 99, 101]⟩ : ByteArray) then some ((-1), true, ())
  else some (0, false, ()))
  else
  (bif seq a1 (⟨#[108, 105, 115, 116]⟩ : ByteArray) then some ((-1), true, ())
  else some (0, false, ()))))
  else
  (bif seq a1 (⟨#[110, 117, 108, 108]⟩ : ByteArray) then
  (bif seq a1 (⟨#[110, 117, 108, 108]⟩ : ByteArray) then some (1, true, ())
  else
  (bif seq a1 (⟨#[99, 111, 97, 108, 101, 115, 99, 101]⟩ : ByteArray) then
  (bif seq a1 (⟨#[99, 111, 97, 108, 101, 115, 99, 101]⟩ : ByteArray) then some ((-1), true, ())
  else some (0, false, ()))
  else
  (bif seq a1 (⟨#[108, 105, 115, 116]⟩ : ByteArray) then some ((-1), true, ())
  else some (0, false, ()))))
  else
  (bif seq a1 (⟨#[115, 105, 122, 101]⟩ : ByteArray) then
  (bif seq a1 (⟨#[115, 105, 122, 101]⟩ : ByteArray) then some (1, true, ())
  else
  (bif seq a1 (⟨#[99, 111, 97, 108, 101, 115, 99, 101]⟩ : ByteArray) then
  (bif seq a1 (⟨#[99, 111, 97, 108, 101, 115, 99, 101]⟩ : ByteArray) then some ((-1), true, ())
  else some (0, false, ()))
  else
  (bif seq a1 (⟨#[108, 105, 115, 116]⟩ : ByteArray) then some ((-1), true, ())
  else some (0, false, ()))))
  else
  (bif seq a1 (⟨#[104, 101, 97, 100]⟩ : ByteArray) then
  (bif seq a1 (⟨#[104, 101, 97, 100]⟩ : ByteArray) then some (1, true, ())
  else
  (bif seq a1 (⟨#[99, 111, 97, 108, 101, 115, 99, 101]⟩ : ByteArray) then
  (bif seq a1 (⟨#[99, 111, 97, 108, 101, 115, 99, 101]⟩ : ByteArray) then some ((-1), true, ())
  else some (0, false, ()))
  else
  (bif seq a1 (⟨#[108, 105, 115, 116]⟩ : ByteArray) then some ((-1), true, ())
  else some (0, false, ()))))
  else
  (bif seq a1 (⟨#[105, 100]⟩ : ByteArray) then
  (bif seq a1 (⟨#[105, 100]⟩ : ByteArray) then some (1, true, ())
  else
  (bif seq a1 (⟨#[99, 111, 97, 108, 101, 115, 99, 101]⟩ : ByteArray) then
  (bif seq a1 (⟨#[99, 111, 97, 108, 101, 115, 99, 101]⟩ : ByteArray) then some ((-1), true, ())
  else some (0, false, ()))
  else
  (bif seq a1 (⟨#[108, 105, 115, 116]⟩ : ByteArray) then some ((-1), true, ())
  else some (0, false, ()))))
  else
  (bif seq a1 (⟨#[116, 121, 112, 101]⟩ : ByteArray) then some (1, true, ())
  else
  (bif seq a1 (⟨#[99, 111, 97, 108, 101, 115, 99, 101]⟩ : ByteArray) then
  (bif seq a1 (⟨#[99, 111, 97, 108, 101, 115, 99, 101]⟩ : ByteArray) then some ((-1), true, ())
  else some (0, false, ()))
  else
  (bif seq a1 (⟨#[108, 105, 115, 116]⟩ : ByteArray) then some ((-1), true, ())
  else some (0, false, ()))))))))))
  else
  (bif seq a1 (⟨#[105, 110]⟩ : ByteArray) then some (2, true, ())
  else
  (bif seq a1 (⟨#[110, 111, 116]⟩ : ByteArray) then
  (bif seq a1 (⟨#[110, 111, 116]⟩ : ByteArray) then some (1, true, ())
  else
  (bif seq a1 (⟨#[99, 111, 97, 108, 101, 115, 99, 101]⟩ : ByteArray) then
  (bif seq a1 (⟨#[99, 111, 97, 108, 101, 115, 99, 101]⟩ : ByteArray) then some ((-1), true, ())
  else some (0, false, ()))
  else
  (bif seq a1 (⟨#[108, 105, 115, 116]⟩ : ByteArray) then some ((-1), true, ())
  else some (0, false, ()))))
  else
  (bif seq a1 (⟨#[110, 117, 108, 108]⟩ : ByteArray) then
  (bif seq a1 (⟨#[110, 117, 108, 108]⟩ : ByteArray) then some (1, true, ())
  else
  (bif seq a1 (⟨#[99, 111, 97, 108, 101, 115, 99, 101]⟩ : ByteArray) then
  (bif seq a1 (⟨#[99, 111, 97, 108, 101, 115, 99, 101]⟩ : ByteArray) then some ((-1), true, ())
  else some (0, false, ()))
  else
  (bif seq a1 (⟨#[108, 105, 115, 116]⟩ : ByteArray) then some ((-1), true, ())
  else some (0, false, ()))))
  else
  (bif seq a1 (⟨#[115, 105, 122, 101]⟩ : ByteArray) then
  (bif seq a1 (⟨#[115, 105, 122, 101]⟩ : ByteArray) then some (1, true, ())
  else
  (bif seq a1 (⟨#[99, 111, 97, 108, 101, 115, 99, 101]⟩ : ByteArray) then
  (bif seq a1 (⟨#[99, 111, 97, 108, 101, 115, 99, 101]⟩ : ByteArray) then some ((-1), true, ())
  else some (0, false, ()))
  else
  (bif seq a1 (⟨#[108, 105, 115, 116]⟩ : ByteArray) then some ((-1), true, ())
  else some (0, false, ()))))
  else
  (bif seq a1 (⟨#[104, 101, 97, 100]⟩ : ByteArray) then
  (bif seq a1 (⟨#[104, 101, 97, 100]⟩ : ByteArray) then some (1, true, ())
  else
  (bif seq a1 (⟨#[99, 111, 97, 108, 101, 115, 99, 101]⟩ : ByteArray) then
  (bif seq a1 (⟨#[99, 111, 97, 108, 101, 115, 99, 101]⟩ : ByteArray) then some ((-1), true, ())
  else some (0, false, ()))
  else
  (bif seq a1 (⟨#[108, 105, 115, 116]⟩ : ByteArray) then some ((-1), true, ())
  else some (0, false, ()))))
  else
  (bif seq a1 (⟨#[105, 100]⟩ : ByteArray) then
  (bif seq a1 (⟨#[105, 100]⟩ : ByteArray) then some (1, true, ())
  else
  (bif seq a1 (⟨#[99, 111, 97, 108, 101, 115, 99, 101]⟩ : ByteArray) then
  (bif seq a1 (⟨#[99, 111, 97, 108, 101, 115, 99, 101]⟩ : ByteArray) then some ((-1), true, ())
  else some (0, false, ()))
  else
  (bif seq a1 (⟨#[108, 105, 115, 116]⟩ : ByteArray) then some ((-1), true, ())
  else some (0, false, ()))))
  else
  (bif seq a1 (⟨#[116, 121, 112, 101]⟩ : ByteArray) then some (1, true, ())
  else
  (bif seq a1 (⟨#[99, 111, 97, 108, 101, 115, 99, 101]⟩ : ByteArray) then
  (bif seq a1 (⟨#[99, 111, 97, 108, 101, 115, 99, 101]⟩ : ByteArray) then some ((-1), true, ())
  else some (0, false, ()))
  else
  (bif seq a1 (⟨#[108, 105, 115, 116]⟩ : ByteArray) then some ((-1), true, ())
  else some (0, false, ()))))))))))))))))))

noncomputable def q47z_s1 {ρ : Type} (self_q47z : Ev.Term × (List (ByteArray × Bool)) × Int × Unit → Option (Int × Unit)) (n : Nat) (rec : (List (ByteArray × Bool)) × Int × (List Ev.Term) × Int × Int × (Ev.Term × Unit) × Unit → Option ρ) (kx : (List (ByteArray × Bool)) × (Ev.Term × Unit) × Unit → Option ρ) (kr : Int × Unit → Option ρ) : (List (ByteArray × Bool)) × Int × (List Ev.Term) × Int × Int × (Ev.Term × Unit) × Unit → Option ρ :=
  fun (v12, v13, v14, v15, v16, o17, _) =>
  (bif decide ((v16 : Int) < v15) then
  (ix v14 v16).bind fun x18 =>
  (self_q47z ((Ev.Term.mk x18.kind (Ev.Val.mk x18.v.kind x18.v.n x18.v.s x18.v.l) x18.name x18.a), v12, IntKind.wrap .i64 (v13 + 1), ())).bind fun (y19, _) =>
  (bif (y19 : Int) != 0 then kr (y19, ())
  else rec (v12, v13, v14, v15, IntKind.wrap .i64 (v16 + 1), ((Ev.Term.mk o17.1.kind (Ev.Val.mk o17.1.v.kind o17.1.v.n o17.1.v.s o17.1.v.l) o17.1.name o17.1.a), ()), ()))
  else kx (v12, ((Ev.Term.mk o17.1.kind (Ev.Val.mk o17.1.v.kind o17.1.v.n o17.1.v.s o17.1.v.l) o17.1.name o17.1.a), ()), ()))

noncomputable def F_q47z_s1 {ρ : Type} (self_q47z : Ev.Term × (List (ByteArray × Bool)) × Int × Unit → Option (Int × Unit)) (n : Nat) (kr : Int × Unit → Option ρ) : Int → Ev.Term → ((List (ByteArray × Bool)) × Int × (Ev.Term × Unit) × Unit) → (((List (ByteArray × Bool)) × Int × (Ev.Term × Unit) × Unit) → Option ρ) → Option ρ :=
  fun v16 x18 (v12, v13, o17, _) rec =>
  (self_q47z ((Ev.Term.mk x18.kind (Ev.Val.mk x18.v.kind x18.v.n x18.v.s x18.v.l) x18.name x18.a), v12, IntKind.wrap .i64 (v13 + 1), ())).bind fun (y19, _) =>
  (bif (y19 : Int) != 0 then kr (y19, ())
  else rec (v12, v13, ((Ev.Term.mk o17.1.kind (Ev.Val.mk o17.1.v.kind o17.1.v.n o17.1.v.s o17.1.v.l) o17.1.name o17.1.a), ()), ()))

theorem R_q47z_s1 {ρ : Type} (self_q47z : Ev.Term × (List (ByteArray × Bool)) × Int × Unit → Option (Int × Unit)) (n : Nat) (kx : (List (ByteArray × Bool)) × (Ev.Term × Unit) × Unit → Option ρ) (kr : Int × Unit → Option ρ) (l : List Ev.Term) (fuel : Nat) (v12 : List (ByteArray × Bool)) (v13 : Int) (o17 : Ev.Term × Unit) (hl : l.length ≤ 9223372036854775807) (hf : l.length < fuel) :
    iterN (fun rc => q47z_s1 self_q47z n rc kx kr) fuel (v12, v13, l, (l.length : Int), 0, o17, ()) = foldK (F_q47z_s1 self_q47z n kr) (fun (v12, v13, o17, _) => kx (v12, ((Ev.Term.mk o17.1.kind (Ev.Val.mk o17.1.v.kind o17.1.v.n o17.1.v.s o17.1.v.l) o17.1.name o17.1.a), ()), ())) 0 l (v12, v13, o17, ()) :=
  range_listM l (fun i (v12, v13, o17, _) => (v12, v13, l, (l.length : Int), i, o17, ())) _ _ _ (fun rec i s => rfl) hl fuel (v12, v13, o17, ()) hf

noncomputable def q47z_b (self_q47z : Ev.Term × (List (ByteArray × Bool)) × Int × Unit → Option (Int × Unit)) (n : Nat) : Ev.Term × (List (ByteArray × Bool)) × Int × Unit → Option (Int × Unit) :=
  fun (a1, a2, a3, _) =>
  (bif decide ((a3 : Int) > 6) then some (2, ())
  else
  (bif (a1.kind : Int) == 1 then
  (bif (!(seq a1.name (⟨#[]⟩ : ByteArray))) || (decide (((a1.a.length : Int) : Int) > 0)) then some (6, ())
  else
  (bif (a1.v.kind : Int) == 4 then some (6, ())
  else
  (q37z n ((Ev.Val.mk a1.v.kind a1.v.n a1.v.s a1.v.l), ())).bind fun (y4, _) => some (y4, ())))
  else
  (bif (a1.kind : Int) == 2 then
  (bif (!(((((a1.v.kind : Int) == 0) && ((a1.v.n : Int) == 0)) && (seq a1.v.s (⟨#[]⟩ : ByteArray))) && (((a1.v.l.length : Int) : Int) == 0))) || (decide (((a1.a.length : Int) : Int) > 0)) then some (6, ())
  else
  (term_Name n (a1.name, ())).bind fun (y5, _) =>
  (bif !y5 then some (6, ())
  else
  (bif !(mpHas .str .bool a2 a1.name) then some (5, ())
  else some (0, ()))))
  else
  (bif (a1.kind : Int) == 3 then
  (bif (!(((((a1.v.kind : Int) == 0) && ((a1.v.n : Int) == 0)) && (seq a1.v.s (⟨#[]⟩ : ByteArray))) && (((a1.v.l.length : Int) : Int) == 0))) || (((a1.a.length : Int) : Int) != 1) then some (6, ())
  else
  (ix a1.a 0).bind fun x6 =>
  (bif (x6.kind : Int) != 2 then some (6, ())
  else
  (q44z n (a1.name, ())).bind fun (y7, _) =>
  (bif !y7 then some (6, ())
  else
  (ix a1.a 0).bind fun x8 =>
  (self_q47z ((Ev.Term.mk x8.kind (Ev.Val.mk x8.v.kind x8.v.n x8.v.s x8.v.l) x8.name x8.a), a2, IntKind.wrap .i64 (a3 + 1), ())).bind fun (y9, _) => some (y9, ()))))
  else
  (bif (a1.kind : Int) == 4 then
  (q46z (a1.name, ())).bind fun (y10, y11, _) =>
  (bif ((!y11) || (!(((((a1.v.kind : Int) == 0) && ((a1.v.n : Int) == 0)) && (seq a1.v.s (⟨#[]⟩ : ByteArray))) && (((a1.v.l.length : Int) : Int) == 0)))) || ((decide ((y10 : Int) ≥ 0)) && (((a1.a.length : Int) : Int) != y10)) then some (6, ())
  else
  (bif decide (((a1.a.length : Int) : Int) > 30) then some (2, ())
  else
  iterN (fun rc28 => q47z_s1 self_q47z n rc28 (fun (v20, o21, _) =>
  (bif seq o21.1.name (⟨#[105, 100]⟩ : ByteArray) then
  (ix o21.1.a 0).bind fun x23 =>
  (bif (x23.kind : Int) != 2 then some (3, ())
  else
  (bif seq o21.1.name (⟨#[116, 121, 112, 101]⟩ : ByteArray) then
  (ix o21.1.a 0).bind fun x24 =>
  (bif (x24.kind : Int) != 2 then some (3, ())
  else
  (ix o21.1.a 0).bind fun x25 =>
  (bif !(mpGet .str .bool false v20 x25.name) then some (3, ())
  else some (0, ())))
  else some (0, ())))
  else
  (bif seq o21.1.name (⟨#[116, 121, 112, 101]⟩ : ByteArray) then
  (ix o21.1.a 0).bind fun x26 =>
  (bif (x26.kind : Int) != 2 then some (3, ())
  else
  (ix o21.1.a 0).bind fun x27 =>
  (bif !(mpGet .str .bool false v20 x27.name) then some (3, ())
  else some (0, ())))
  else some (0, ())))) (fun (v22, _) => some (v22, ()))) (n) (a2, a3, a1.a, (a1.a.length : Int), 0, ((Ev.Term.mk a1.kind (Ev.Val.mk a1.v.kind a1.v.n a1.v.s a1.v.l) a1.name a1.a), ()), ())))
  else some (6, ()))))))

noncomputable def q47z : Nat → Ev.Term × (List (ByteArray × Bool)) × Int × Unit → Option (Int × Unit)
  | 0, _ => none
  | n + 1, x => q47z_b (q47z n) n x

noncomputable def q45z (n : Nat) : Ev.Term × (List (ByteArray × Bool)) × Unit → Option (Int × Unit) :=
  fun (a1, a2, _) =>
  (q47z n ((Ev.Term.mk a1.kind (Ev.Val.mk a1.v.kind a1.v.n a1.v.s a1.v.l) a1.name a1.a), a2, 1, ())).bind fun (y3, _) => some (y3, ())

noncomputable def q50z_s0 {ρ : Type} (self_q50z : Ev.Val × Unit → Option (Ev.Val × Unit)) (n : Nat) (rec : (List Ev.Val) × Int × Int × (Int × Int × ByteArray × Unit) × (Ev.Val × Unit) × (List Ev.Val) × Unit → Option ρ) (kx : (Int × Int × ByteArray × Unit) × (Ev.Val × Unit) × (List Ev.Val) × Unit → Option ρ) (kr : Unit → Option ρ) : (List Ev.Val) × Int × Int × (Int × Int × ByteArray × Unit) × (Ev.Val × Unit) × (List Ev.Val) × Unit → Option ρ :=
  fun (v2, v3, v4, o5, o6, o7, _) =>
  (bif decide ((v4 : Int) < v3) then
  (ix v2 v4).bind fun x8 =>
  (self_q50z ((Ev.Val.mk x8.kind x8.n x8.s x8.l), ())).bind fun (y10, _) =>
  ck (room (o7 ++ ([(Ev.Val.mk y10.kind y10.n y10.s y10.l)] : List Ev.Val)).length 56) (rec (v2, v3, IntKind.wrap .i64 (v4 + 1), (o5.1, o5.2.1, o5.2.2.1, ()), ((Ev.Val.mk o6.1.kind o6.1.n o6.1.s o6.1.l), ()), o7 ++ ([(Ev.Val.mk y10.kind y10.n y10.s y10.l)] : List Ev.Val), ()))
  else kx ((o5.1, o5.2.1, o5.2.2.1, ()), ((Ev.Val.mk o6.1.kind o6.1.n o6.1.s o6.1.l), ()), o7, ()))

noncomputable def F_q50z_s0 {ρ : Type} (self_q50z : Ev.Val × Unit → Option (Ev.Val × Unit)) (n : Nat) (kr : Unit → Option ρ) : Int → Ev.Val → ((Int × Int × ByteArray × Unit) × (Ev.Val × Unit) × (List Ev.Val) × Unit) → (((Int × Int × ByteArray × Unit) × (Ev.Val × Unit) × (List Ev.Val) × Unit) → Option ρ) → Option ρ :=
  fun v4 x8 (o5, o6, o7, _) rec =>
  (self_q50z ((Ev.Val.mk x8.kind x8.n x8.s x8.l), ())).bind fun (y10, _) =>
  ck (room (o7 ++ ([(Ev.Val.mk y10.kind y10.n y10.s y10.l)] : List Ev.Val)).length 56) (rec ((o5.1, o5.2.1, o5.2.2.1, ()), ((Ev.Val.mk o6.1.kind o6.1.n o6.1.s o6.1.l), ()), o7 ++ ([(Ev.Val.mk y10.kind y10.n y10.s y10.l)] : List Ev.Val), ()))

theorem R_q50z_s0 {ρ : Type} (self_q50z : Ev.Val × Unit → Option (Ev.Val × Unit)) (n : Nat) (kx : (Int × Int × ByteArray × Unit) × (Ev.Val × Unit) × (List Ev.Val) × Unit → Option ρ) (kr : Unit → Option ρ) (l : List Ev.Val) (fuel : Nat) (o5 : Int × Int × ByteArray × Unit) (o6 : Ev.Val × Unit) (o7 : List Ev.Val) (hl : l.length ≤ 9223372036854775807) (hf : l.length < fuel) :
    iterN (fun rc => q50z_s0 self_q50z n rc kx kr) fuel (l, (l.length : Int), 0, o5, o6, o7, ()) = foldK (F_q50z_s0 self_q50z n kr) (fun (o5, o6, o7, _) => kx ((o5.1, o5.2.1, o5.2.2.1, ()), ((Ev.Val.mk o6.1.kind o6.1.n o6.1.s o6.1.l), ()), o7, ())) 0 l (o5, o6, o7, ()) :=
  range_listM l (fun i (o5, o6, o7, _) => (l, (l.length : Int), i, o5, o6, o7, ())) _ _ _ (fun rec i s => rfl) hl fuel (o5, o6, o7, ()) hf

noncomputable def q50z_b (self_q50z : Ev.Val × Unit → Option (Ev.Val × Unit)) (n : Nat) : Ev.Val × Unit → Option (Ev.Val × Unit) :=
  fun (a1, _) =>
  iterN (fun rc14 => q50z_s0 self_q50z n rc14 (fun (o11, o12, o13, _) => some ((Ev.Val.mk o11.1 o11.2.1 o11.2.2.1 o13), ())) (fun (_) => none)) (n) (a1.l, (a1.l.length : Int), 0, (a1.kind, a1.n, a1.s, ()), ((Ev.Val.mk 0 0 (⟨#[]⟩ : ByteArray) ([] : List Ev.Val)), ()), ([] : List Ev.Val), ())

noncomputable def q50z : Nat → Ev.Val × Unit → Option (Ev.Val × Unit)
  | 0, _ => none
  | n + 1, x => q50z_b (q50z n) n x

noncomputable def graph_Get_s0 {ρ : Type} (n : Nat) (rec : ByteArray × (List Ev.Prp) × Int × Int × (Ev.Val × Unit) × Unit → Option ρ) (kx : (Ev.Val × Unit) × Unit → Option ρ) (kr : (Ev.Val × Unit) × Unit → Option ρ) : ByteArray × (List Ev.Prp) × Int × Int × (Ev.Val × Unit) × Unit → Option ρ :=
  fun (v3, v4, v5, v6, o7, _) =>
  (bif decide ((v6 : Int) < v5) then
  (ix v4 v6).bind fun x8 =>
  (bif seq x8.name v3 then
  (q50z n ((Ev.Val.mk x8.val.kind x8.val.n x8.val.s x8.val.l), ())).bind fun (y9, _) => kr (((Ev.Val.mk y9.kind y9.n y9.s y9.l), ()), ())
  else rec (v3, v4, v5, IntKind.wrap .i64 (v6 + 1), ((Ev.Val.mk o7.1.kind o7.1.n o7.1.s o7.1.l), ()), ()))
  else kx (((Ev.Val.mk o7.1.kind o7.1.n o7.1.s o7.1.l), ()), ()))

noncomputable def F_graph_Get_s0 {ρ : Type} (n : Nat) (kr : (Ev.Val × Unit) × Unit → Option ρ) : Int → Ev.Prp → (ByteArray × (Ev.Val × Unit) × Unit) → ((ByteArray × (Ev.Val × Unit) × Unit) → Option ρ) → Option ρ :=
  fun v6 x8 (v3, o7, _) rec =>
  (bif seq x8.name v3 then
  (q50z n ((Ev.Val.mk x8.val.kind x8.val.n x8.val.s x8.val.l), ())).bind fun (y9, _) => kr (((Ev.Val.mk y9.kind y9.n y9.s y9.l), ()), ())
  else rec (v3, ((Ev.Val.mk o7.1.kind o7.1.n o7.1.s o7.1.l), ()), ()))

theorem R_graph_Get_s0 {ρ : Type} (n : Nat) (kx : (Ev.Val × Unit) × Unit → Option ρ) (kr : (Ev.Val × Unit) × Unit → Option ρ) (l : List Ev.Prp) (fuel : Nat) (v3 : ByteArray) (o7 : Ev.Val × Unit) (hl : l.length ≤ 9223372036854775807) (hf : l.length < fuel) :
    iterN (fun rc => graph_Get_s0 n rc kx kr) fuel (v3, l, (l.length : Int), 0, o7, ()) = foldK (F_graph_Get_s0 n kr) (fun (v3, o7, _) => kx (((Ev.Val.mk o7.1.kind o7.1.n o7.1.s o7.1.l), ()), ())) 0 l (v3, o7, ()) :=
  range_listM l (fun i (v3, o7, _) => (v3, l, (l.length : Int), i, o7, ())) _ _ _ (fun rec i s => rfl) hl fuel (v3, o7, ()) hf

noncomputable def graph_Get (n : Nat) : (List Ev.Prp) × ByteArray × Unit → Option (Ev.Val × Unit) :=
  fun (a1, a2, _) =>
  iterN (fun rc12 => graph_Get_s0 n rc12 (fun (o10, _) => some ((Ev.Val.mk 0 0 (⟨#[]⟩ : ByteArray) ([] : List Ev.Val)), ())) (fun (o11, _) => some ((Ev.Val.mk o11.1.kind o11.1.n o11.1.s o11.1.l), ()))) (n) (a2, a1, (a1.length : Int), 0, ((Ev.Val.mk 0 0 (⟨#[]⟩ : ByteArray) ([] : List Ev.Val)), ()), ())

noncomputable def q24z (n : Nat) : Ev.Envr × Int × ByteArray × Unit → Option (Ev.Val × Unit) :=
  fun (a1, a2, a3, _) =>
  (q43z n ((Ev.Graph.mk a1.g.nodes a1.g.edges a1.g.next), a2, ())).bind fun (y4, _) =>
  (bif decide ((y4 : Int) ≥ 0) then
  (ix a1.g.nodes y4).bind fun x5 =>
  (graph_Get n (x5.props, a3, ())).bind fun (y6, _) => some ((Ev.Val.mk y6.kind y6.n y6.s y6.l), ())
  else
  (q22z n ((Ev.Graph.mk a1.g.nodes a1.g.edges a1.g.next), a2, ())).bind fun (y7, _) =>
  (bif decide ((y7 : Int) ≥ 0) then
  (ix a1.g.edges y7).bind fun x8 =>
  (graph_Get n (x8.props, a3, ())).bind fun (y9, _) => some ((Ev.Val.mk y9.kind y9.n y9.s y9.l), ())
  else some ((Ev.Val.mk 0 0 (⟨#[]⟩ : ByteArray) ([] : List Ev.Val)), ())))

noncomputable def value_add : Int × Int × Unit → Option (Int × Bool × Unit) :=
  fun (a1, a2, _) => some (IntKind.wrap .i64 (a1 + a2), (decide ((IntKind.wrap .i64 (a1 + a2) : Int) > a1)) == (decide ((a2 : Int) > 0)), ())

noncomputable def q25z_s0 {ρ : Type} (n : Nat) (rec : (List Ev.Val) × Int × Int × (Int × Int × ByteArray × Unit) × (Ev.Val × Unit) × (List Ev.Val) × Unit → Option ρ) (kx : (Int × Int × ByteArray × Unit) × (Ev.Val × Unit) × (List Ev.Val) × Unit → Option ρ) (kr : Unit → Option ρ) : (List Ev.Val) × Int × Int × (Int × Int × ByteArray × Unit) × (Ev.Val × Unit) × (List Ev.Val) × Unit → Option ρ :=
  fun (v2, v3, v4, o5, o6, o7, _) =>
  (bif decide ((v4 : Int) < v3) then
  (ix v2 v4).bind fun x8 =>
  (q50z n ((Ev.Val.mk x8.kind x8.n x8.s x8.l), ())).bind fun (y10, _) =>
  ck (room (o7 ++ ([(Ev.Val.mk y10.kind y10.n y10.s y10.l)] : List Ev.Val)).length 56) (rec (v2, v3, IntKind.wrap .i64 (v4 + 1), (o5.1, o5.2.1, o5.2.2.1, ()), ((Ev.Val.mk o6.1.kind o6.1.n o6.1.s o6.1.l), ()), o7 ++ ([(Ev.Val.mk y10.kind y10.n y10.s y10.l)] : List Ev.Val), ()))
  else kx ((o5.1, o5.2.1, o5.2.2.1, ()), ((Ev.Val.mk o6.1.kind o6.1.n o6.1.s o6.1.l), ()), o7, ()))

noncomputable def F_q25z_s0 {ρ : Type} (n : Nat) (kr : Unit → Option ρ) : Int → Ev.Val → ((Int × Int × ByteArray × Unit) × (Ev.Val × Unit) × (List Ev.Val) × Unit) → (((Int × Int × ByteArray × Unit) × (Ev.Val × Unit) × (List Ev.Val) × Unit) → Option ρ) → Option ρ :=
  fun v4 x8 (o5, o6, o7, _) rec =>
  (q50z n ((Ev.Val.mk x8.kind x8.n x8.s x8.l), ())).bind fun (y10, _) =>
  ck (room (o7 ++ ([(Ev.Val.mk y10.kind y10.n y10.s y10.l)] : List Ev.Val)).length 56) (rec ((o5.1, o5.2.1, o5.2.2.1, ()), ((Ev.Val.mk o6.1.kind o6.1.n o6.1.s o6.1.l), ()), o7 ++ ([(Ev.Val.mk y10.kind y10.n y10.s y10.l)] : List Ev.Val), ()))

theorem R_q25z_s0 {ρ : Type} (n : Nat) (kx : (Int × Int × ByteArray × Unit) × (Ev.Val × Unit) × (List Ev.Val) × Unit → Option ρ) (kr : Unit → Option ρ) (l : List Ev.Val) (fuel : Nat) (o5 : Int × Int × ByteArray × Unit) (o6 : Ev.Val × Unit) (o7 : List Ev.Val) (hl : l.length ≤ 9223372036854775807) (hf : l.length < fuel) :
    iterN (fun rc => q25z_s0 n rc kx kr) fuel (l, (l.length : Int), 0, o5, o6, o7, ()) = foldK (F_q25z_s0 n kr) (fun (o5, o6, o7, _) => kx ((o5.1, o5.2.1, o5.2.2.1, ()), ((Ev.Val.mk o6.1.kind o6.1.n o6.1.s o6.1.l), ()), o7, ())) 0 l (o5, o6, o7, ()) :=
  range_listM l (fun i (o5, o6, o7, _) => (l, (l.length : Int), i, o5, o6, o7, ())) _ _ _ (fun rec i s => rfl) hl fuel (o5, o6, o7, ()) hf

noncomputable def q25z (n : Nat) : Ev.Val × Unit → Option ((Int × Int × ByteArray × Unit) × (List Ev.Val) × Unit) :=
  fun (a1, _) =>
  iterN (fun rc14 => q25z_s0 n rc14 (fun (o11, o12, o13, _) => some ((o11.1, o11.2.1, o11.2.2.1, ()), o13, ())) (fun (_) => none)) (n) (a1.l, (a1.l.length : Int), 0, (a1.kind, a1.n, a1.s, ()), ((Ev.Val.mk 0 0 (⟨#[]⟩ : ByteArray) ([] : List Ev.Val)), ()), ([] : List Ev.Val), ())

noncomputable def value_sub : Int × Int × Unit → Option (Int × Bool × Unit) :=
  fun (a1, a2, _) => some (IntKind.wrap .i64 (a1 - a2), (decide ((IntKind.wrap .i64 (a1 - a2) : Int) < a1)) == (decide ((a2 : Int) > 0)), ())

noncomputable def q40z : Int × Unit → Option (Int × Unit) :=
  fun (a1, _) =>
  (bif decide ((a1 : Int) < 0) then some (IntKind.wrap .u64 (0 - (IntKind.wrap .u64 (a1))), ())
  else some (IntKind.wrap .u64 (a1), ()))

noncomputable def q21z : Int × Int × Unit → Option (Int × Int × Unit) :=
  fun (a1, a2, _) => some (IntKind.wrap .u64 ((IntKind.wrap .u64 ((IntKind.wrap .u64 ((bshr .u64 a1 32) * (bshr .u64 a2 32))) + (bshr .u64 (IntKind.wrap .u64 ((IntKind.wrap .u64 ((bshr .u64 a1 32) * (band .u64 a2 4294967295))) + (bshr .u64 (IntKind.wrap .u64 ((band .u64 a1 4294967295) * (band .u64 a2 4294967295))) 32))) 32))) + (bshr .u64 (IntKind.wrap .u64 ((band .u64 (IntKind.wrap .u64 ((IntKind.wrap .u64 ((bshr .u64 a1 32) * (band .u64 a2 4294967295))) + (bshr .u64 (IntKind.wrap .u64 ((band .u64 a1 4294967295) * (band .u64 a2 4294967295))) 32))) 4294967295) + (IntKind.wrap .u64 ((band .u64 a1 4294967295) * (bshr .u64 a2 32))))) 32)), IntKind.wrap .u64 (a1 * a2), ())

noncomputable def value_mul : Int × Int × Unit → Option (Int × Bool × Unit) :=
  fun (a1, a2, _) =>
  (q40z (a1, ())).bind fun (y3, _) =>
  (q40z (a2, ())).bind fun (y4, _) =>
  (q21z (y3, y4, ())).bind fun (y5, y6, _) =>
  (bif (((y5 : Int) != 0) || (decide ((y6 : Int) > 9223372036854775808))) || (((y6 : Int) == 9223372036854775808) && (!(!((decide ((a1 : Int) < 0)) == (decide ((a2 : Int) < 0)))))) then some (0, false, ())
  else
  (bif !((decide ((a1 : Int) < 0)) == (decide ((a2 : Int) < 0))) then some (IntKind.wrap .i64 (IntKind.wrap .u64 (0 - y6)), true, ())
  else some (IntKind.wrap .i64 (y6), true, ())))

noncomputable def q32z (n : Nat) : ByteArray × Ev.Val × Ev.Val × Unit → Option (Ev.Val × Int × Unit) :=
  fun (a1, a2, a3, _) =>
  (bif seq a1 (⟨#[43]⟩ : ByteArray) then
  (bif ((a2.kind : Int) == 0) || ((a3.kind : Int) == 0) then some ((Ev.Val.mk 0 0 (⟨#[]⟩ : ByteArray) ([] : List Ev.Val)), 0, ())
  else
  (bif ((a2.kind : Int) == 2) && ((a3.kind : Int) == 2) then
  (value_add (a2.n, a3.n, ())).bind fun (y4, y5, _) =>
  (bif !y5 then some ((Ev.Val.mk 0 0 (⟨#[]⟩ : ByteArray) ([] : List Ev.Val)), 4, ())
  else some ((Ev.Val.mk 2 y4 (⟨#[]⟩ : ByteArray) ([] : List Ev.Val)), 0, ()))
  else
  (bif ((seq a1 (⟨#[43]⟩ : ByteArray)) && ((a2.kind : Int) == 3)) && ((a3.kind : Int) == 3) then
  (bif decide ((IntKind.wrap .i64 ((a2.s.size : Int) + (a3.s.size : Int)) : Int) > 4000) then some ((Ev.Val.mk 0 0 (⟨#[]⟩ : ByteArray) ([] : List Ev.Val)), 2, ())
  else
  (cat? a2.s a3.s).bind fun s6 => some ((Ev.Val.mk 3 0 s6 ([] : List Ev.Val)), 0, ()))
  else
  (bif ((seq a1 (⟨#[43]⟩ : ByteArray)) && ((a2.kind : Int) == 4)) && ((a3.kind : Int) == 4) then
  (bif decide ((IntKind.wrap .i64 ((a2.l.length : Int) + (a3.l.length : Int)) : Int) > 30) then some ((Ev.Val.mk 0 0 (⟨#[]⟩ : ByteArray) ([] : List Ev.Val)), 2, ())
  else
  (q25z n ((Ev.Val.mk a2.kind a2.n a2.s a2.l), ())).bind fun (y8, o9, _) =>
  (q25z n ((Ev.Val.mk a3.kind a3.n a3.s a3.l), ())).bind fun (y10, o11, _) =>
  ck (room (o9 ++ o11).length 56) (some ((Ev.Val.mk 4 0 (⟨#[]⟩ : ByteArray) (o9 ++ o11)), 0, ())))
  else some ((Ev.Val.mk 0 0 (⟨#[]⟩ : ByteArray) ([] : List Ev.Val)), 3, ())))))
  else
  (bif seq a1 (⟨#[45]⟩ : ByteArray) then
  (bif ((a2.kind : Int) == 0) || ((a3.kind : Int) == 0) then some ((Ev.Val.mk 0 0 (⟨#[]⟩ : ByteArray) ([] : List Ev.Val)), 0, ())
  else
  (bif ((a2.kind : Int) == 2) && ((a3.kind : Int) == 2) then
  (value_sub (a2.n, a3.n, ())).bind fun (y12, y13, _) =>
  (bif !y13 then some ((Ev.Val.mk 0 0 (⟨#[]⟩ : ByteArray) ([] : List Ev.Val)), 4, ())
  else some ((Ev.Val.mk 2 y12 (⟨#[]⟩ : ByteArray) ([] : List Ev.Val)), 0, ()))
  else
  (bif ((seq a1 (⟨#[43]⟩ : ByteArray)) && ((a2.kind : Int) == 3)) && ((a3.kind : Int) == 3) then
  (bif decide ((IntKind.wrap .i64 ((a2.s.size : Int) + (a3.s.size : Int)) : Int) > 4000) then some ((Ev.Val.mk 0 0 (⟨#[]⟩ : ByteArray) ([] : List Ev.Val)), 2, ())
  else
  (cat? a2.s a3.s).bind fun s14 => some ((Ev.Val.mk 3 0 s14 ([] : List Ev.Val)), 0, ()))
  else
  (bif ((seq a1 (⟨#[43]⟩ : ByteArray)) && ((a2.kind : Int) == 4)) && ((a3.kind : Int) == 4) then
  (bif decide ((IntKind.wrap .i64 ((a2.l.length : Int) + (a3.l.length : Int)) : Int) > 30) then some ((Ev.Val.mk 0 0 (⟨#[]⟩ : ByteArray) ([] : List Ev.Val)), 2, ())
  else
  (q25z n ((Ev.Val.mk a2.kind a2.n a2.s a2.l), ())).bind fun (y16, o17, _) =>
  (q25z n ((Ev.Val.mk a3.kind a3.n a3.s a3.l), ())).bind fun (y18, o19, _) =>
  ck (room (o17 ++ o19).length 56) (some ((Ev.Val.mk 4 0 (⟨#[]⟩ : ByteArray) (o17 ++ o19)), 0, ())))
  else some ((Ev.Val.mk 0 0 (⟨#[]⟩ : ByteArray) ([] : List Ev.Val)), 3, ())))))
  else
  (bif seq a1 (⟨#[42]⟩ : ByteArray) then
  (bif ((a2.kind : Int) == 0) || ((a3.kind : Int) == 0) then some ((Ev.Val.mk 0 0 (⟨#[]⟩ : ByteArray) ([] : List Ev.Val)), 0, ())
  else
  (bif ((a2.kind : Int) == 2) && ((a3.kind : Int) == 2) then
  (value_mul (a2.n, a3.n, ())).bind fun (y20, y21, _) =>
  (bif !y21 then some ((Ev.Val.mk 0 0 (⟨#[]⟩ : ByteArray) ([] : List Ev.Val)), 4, ())
  else some ((Ev.Val.mk 2 y20 (⟨#[]⟩ : ByteArray) ([] : List Ev.Val)), 0, ()))
  else
  (bif ((seq a1 (⟨#[43]⟩ : ByteArray)) && ((a2.kind : Int) == 3)) && ((a3.kind : Int) == 3) then
  (bif decide ((IntKind.wrap .i64 ((a2.s.size : Int) + (a3.s.size : Int)) : Int) > 4000) then some ((Ev.Val.mk 0 0 (⟨#[]⟩ : ByteArray) ([] : List Ev.Val)), 2, ())
  else
  (cat? a2.s a3.s).bind fun s22 => some ((Ev.Val.mk 3 0 s22 ([] : List Ev.Val)), 0, ()))
  else
  (bif ((seq a1 (⟨#[43]⟩ : ByteArray)) && ((a2.kind : Int) == 4)) && ((a3.kind : Int) == 4) then
  (bif decide ((IntKind.wrap .i64 ((a2.l.length : Int) + (a3.l.length : Int)) : Int) > 30) then some ((Ev.Val.mk 0 0 (⟨#[]⟩ : ByteArray) ([] : List Ev.Val)), 2, ())
  else
  (q25z n ((Ev.Val.mk a2.kind a2.n a2.s a2.l), ())).bind fun (y24, o25, _) =>
  (q25z n ((Ev.Val.mk a3.kind a3.n a3.s a3.l), ())).bind fun (y26, o27, _) =>
  ck (room (o25 ++ o27).length 56) (some ((Ev.Val.mk 4 0 (⟨#[]⟩ : ByteArray) (o25 ++ o27)), 0, ())))
  else some ((Ev.Val.mk 0 0 (⟨#[]⟩ : ByteArray) ([] : List Ev.Val)), 3, ())))))
  else some ((Ev.Val.mk 0 0 (⟨#[]⟩ : ByteArray) ([] : List Ev.Val)), 5, ()))))

noncomputable def q17z : ByteArray × Unit → Option (Bool × Unit) :=
  fun (a1, _) => some (!(seq a1 a1), ())

noncomputable def q10z : ByteArray × ByteArray × Unit → Option (Int × Unit) :=
  fun (a1, a2, _) =>
  (q17z (a1, ())).bind fun (y3, _) =>
  (q17z (a2, ())).bind fun (y4, _) =>
  (bif y3 then
  (bif y4 then some (0, ())
  else some ((-1), ()))
  else
  (bif y4 then some (1, ())
  else
  (bif sless a1 a2 then some ((-1), ())
  else
  (bif !(sless a1 a2 || seq a1 a2) then some (1, ())
  else some (0, ())))))

noncomputable def q0z_s0 {ρ : Type} (self_q38z : Ev.Val × Ev.Val × Unit → Option (Int × Unit)) (n : Nat) (rec : (List Ev.Val) × (List Ev.Val) × (List Ev.Val) × Int × Int × Unit → Option ρ) (kx : (List Ev.Val) × (List Ev.Val) × Unit → Option ρ) (kr : Int × Unit → Option ρ) : (List Ev.Val) × (List Ev.Val) × (List Ev.Val) × Int × Int × Unit → Option ρ :=
  fun (v3, v4, v5, v6, v7, _) =>
  (bif decide ((v7 : Int) < v6) then
  (ix v5 v7).bind fun x8 =>
  (bif decide ((v7 : Int) ≥ (v4.length : Int)) then kr (1, ())
  else
  (ix v4 v7).bind fun x9 =>
  (self_q38z ((Ev.Val.mk x8.kind x8.n x8.s x8.l), (Ev.Val.mk x9.kind x9.n x9.s x9.l), ())).bind fun (y10, _) =>
  (bif (y10 : Int) != 0 then kr (y10, ())
  else rec (v3, v4, v5, v6, IntKind.wrap .i64 (v7 + 1), ())))
  else kx (v3, v4, ()))

noncomputable def F_q0z_s0 {ρ : Type} (self_q38z : Ev.Val × Ev.Val × Unit → Option (Int × Unit)) (n : Nat) (kr : Int × Unit → Option ρ) : Int → Ev.Val → ((List Ev.Val) × (List Ev.Val) × Unit) → (((List Ev.Val) × (List Ev.Val) × Unit) → Option ρ) → Option ρ :=
  fun v7 x8 (v3, v4, _) rec =>
  (bif decide ((v7 : Int) ≥ (v4.length : Int)) then kr (1, ())
  else
  (ix v4 v7).bind fun x9 =>
  (self_q38z ((Ev.Val.mk x8.kind x8.n x8.s x8.l), (Ev.Val.mk x9.kind x9.n x9.s x9.l), ())).bind fun (y10, _) =>
  (bif (y10 : Int) != 0 then kr (y10, ())
  else rec (v3, v4, ())))

theorem R_q0z_s0 {ρ : Type} (self_q38z : Ev.Val × Ev.Val × Unit → Option (Int × Unit)) (n : Nat) (kx : (List Ev.Val) × (List Ev.Val) × Unit → Option ρ) (kr : Int × Unit → Option ρ) (l : List Ev.Val) (fuel : Nat) (v3 : List Ev.Val) (v4 : List Ev.Val) (hl : l.length ≤ 9223372036854775807) (hf : l.length < fuel) :
    iterN (fun rc => q0z_s0 self_q38z n rc kx kr) fuel (v3, v4, l, (l.length : Int), 0, ()) = foldK (F_q0z_s0 self_q38z n kr) (fun (v3, v4, _) => kx (v3, v4, ())) 0 l (v3, v4, ()) :=
  range_listM l (fun i (v3, v4, _) => (v3, v4, l, (l.length : Int), i, ())) _ _ _ (fun rec i s => rfl) hl fuel (v3, v4, ()) hf

noncomputable def q0z (self_q38z : Ev.Val × Ev.Val × Unit → Option (Int × Unit)) (n : Nat) : (List Ev.Val) × (List Ev.Val) × Unit → Option (Int × Unit) :=
  fun (a1, a2, _) =>
  iterN (fun rc14 => q0z_s0 self_q38z n rc14 (fun (v11, v12, _) =>
  (bif decide (((v11.length : Int) : Int) < (v12.length : Int)) then some ((-1), ())
  else some (0, ()))) (fun (v13, _) => some (v13, ()))) (n) (a1, a2, a1, (a1.length : Int), 0, ())

noncomputable def q42z_s0 {ρ : Type} (n : Nat) (rec : Int × (List Int) × Int × Int × Unit → Option ρ) (kx : Int × Unit → Option ρ) (kr : Int × Unit → Option ρ) : Int × (List Int) × Int × Int × Unit → Option ρ :=
  fun (v2, v3, v4, v5, _) =>
  (bif decide ((v5 : Int) < v4) then
  (ix v3 v5).bind fun x6 =>
  (bif (x6 : Int) != v2 then kr (x6, ())
  else rec (v2, v3, v4, IntKind.wrap .i64 (v5 + 1), ()))
  else kx (v2, ()))

noncomputable def F_q42z_s0 {ρ : Type} (n : Nat) (kr : Int × Unit → Option ρ) : Int → Int → (Int × Unit) → ((Int × Unit) → Option ρ) → Option ρ :=
  fun v5 x6 (v2, _) rec =>
  (bif (x6 : Int) != v2 then kr (x6, ())
  else rec (v2, ()))

theorem R_q42z_s0 {ρ : Type} (n : Nat) (kx : Int × Unit → Option ρ) (kr : Int × Unit → Option ρ) (l : List Int) (fuel : Nat) (v2 : Int) (hl : l.length ≤ 9223372036854775807) (hf : l.length < fuel) :
    iterN (fun rc => q42z_s0 n rc kx kr) fuel (v2, l, (l.length : Int), 0, ()) = foldK (F_q42z_s0 n kr) (fun (v2, _) => kx (v2, ())) 0 l (v2, ()) :=
  range_listM l (fun i (v2, _) => (v2, l, (l.length : Int), i, ())) _ _ _ (fun rec i s => rfl) hl fuel (v2, ()) hf

noncomputable def q42z (n : Nat) : (List Int) × Unit → Option (Int × Unit) :=
  fun (a1, _) =>
  iterN (fun rc9 => q42z_s0 n rc9 (fun (v7, _) => some (v7, ())) (fun (v8, _) => some (v8, ()))) (n) (0, a1, (a1.length : Int), 0, ())

noncomputable def q38z_b (self_q38z : Ev.Val × Ev.Val × Unit → Option (Int × Unit)) (n : Nat) : Ev.Val × Ev.Val × Unit → Option (Int × Unit) :=
  fun (a1, a2, _) =>
  (q19z (a1.kind, a2.kind, ())).bind fun (y3, _) =>
  (bif (y3 : Int) != 0 then some (y3, ())
  else
  (q19z (a1.n, a2.n, ())).bind fun (y4, _) =>
  (q10z (a1.s, a2.s, ())).bind fun (y5, _) =>
  (q0z self_q38z n (a1.l, a2.l, ())).bind fun (y6, _) =>
  (q42z n (([y4, y5, y6] : List Int), ())).bind fun (y7, _) => some (y7, ()))

noncomputable def q38z : Nat → Ev.Val × Ev.Val × Unit → Option (Int × Unit)
  | 0, _ => none
  | n + 1, x => q38z_b (q38z n) n x

noncomputable def q41z : Bool × Unit → Option (Ev.Val × Unit) :=
  fun (a1, _) =>
  (bif a1 then some ((Ev.Val.mk 1 1 (⟨#[]⟩ : ByteArray) ([] : List Ev.Val)), ())
  else some ((Ev.Val.mk 1 0 (⟨#[]⟩ : ByteArray) ([] : List Ev.Val)), ()))

noncomputable def q52z_s0 {ρ : Type} (self_q52z : Ev.Val × Ev.Val × Unit → Option (Ev.Val × Unit)) (n : Nat) (rec : Int × Int × (Ev.Val × Unit) × (Ev.Val × Unit) × (Ev.Val × Unit) × (Ev.Val × Unit) × Unit → Option ρ) (kx : (Ev.Val × Unit) × (Ev.Val × Unit) × Unit → Option ρ) (kr : (Ev.Val × Unit) × Unit → Option ρ) : Int × Int × (Ev.Val × Unit) × (Ev.Val × Unit) × (Ev.Val × Unit) × (Ev.Val × Unit) × Unit → Option ρ :=
  fun (v7, v8, o9, o10, o11, o12, _) =>
  (bif decide ((v8 : Int) < v7) then
  (ix o9.1.l v8).bind fun x16 =>
  (ix o10.1.l v8).bind fun x17 =>
  (self_q52z ((Ev.Val.mk x16.kind x16.n x16.s x16.l), (Ev.Val.mk x17.kind x17.n x17.s x17.l), ())).bind fun (y18, _) =>
  (bif (y18.kind : Int) == 0 then rec (v7, IntKind.wrap .i64 (v8 + 1), ((Ev.Val.mk o9.1.kind o9.1.n o9.1.s o9.1.l), ()), ((Ev.Val.mk o10.1.kind o10.1.n o10.1.s o10.1.l), ()), ((Ev.Val.mk o11.1.kind o11.1.n o11.1.s o11.1.l), ()), ((Ev.Val.mk y18.kind y18.n y18.s y18.l), ()), ())
  else
  (bif (y18.n : Int) == 0 then kr (((Ev.Val.mk y18.kind y18.n y18.s y18.l), ()), ())
  else rec (v7, IntKind.wrap .i64 (v8 + 1), ((Ev.Val.mk o9.1.kind o9.1.n o9.1.s o9.1.l), ()), ((Ev.Val.mk o10.1.kind o10.1.n o10.1.s o10.1.l), ()), ((Ev.Val.mk o11.1.kind o11.1.n o11.1.s o11.1.l), ()), ((Ev.Val.mk o12.1.kind o12.1.n o12.1.s o12.1.l), ()), ())))
  else kx (((Ev.Val.mk o11.1.kind o11.1.n o11.1.s o11.1.l), ()), ((Ev.Val.mk o12.1.kind o12.1.n o12.1.s o12.1.l), ()), ()))

noncomputable def q52z_b (self_q52z : Ev.Val × Ev.Val × Unit → Option (Ev.Val × Unit)) (n : Nat) : Ev.Val × Ev.Val × Unit → Option (Ev.Val × Unit) :=
  fun (a1, a2, _) =>
  (bif ((a1.kind : Int) == 0) || ((a2.kind : Int) == 0) then some ((Ev.Val.mk 0 0 (⟨#[]⟩ : ByteArray) ([] : List Ev.Val)), ())
  else
  (bif ((a1.kind : Int) != 4) || ((a2.kind : Int) != 4) then
  (q38z n ((Ev.Val.mk a1.kind a1.n a1.s a1.l), (Ev.Val.mk a2.kind a2.n a2.s a2.l), ())).bind fun (y3, _) =>
  (q41z ((y3 : Int) == 0, ())).bind fun (y4, _) => some ((Ev.Val.mk y4.kind y4.n y4.s y4.l), ())
  else
  (bif ((a1.l.length : Int) : Int) != (a2.l.length : Int) then
  (q41z (false, ())).bind fun (y5, _) => some ((Ev.Val.mk y5.kind y5.n y5.s y5.l), ())
  else
  (q41z (true, ())).bind fun (y6, _) =>
  iterN (fun rc22 => q52z_s0 self_q52z n rc22 (fun (o19, o20, _) => some ((Ev.Val.mk o20.1.kind o20.1.n o20.1.s o20.1.l), ())) (fun (o21, _) => some ((Ev.Val.mk o21.1.kind o21.1.n o21.1.s o21.1.l), ()))) (n) ((a1.l.length : Int), 0, ((Ev.Val.mk a1.kind a1.n a1.s a1.l), ()), ((Ev.Val.mk a2.kind a2.n a2.s a2.l), ()), ((Ev.Val.mk 0 0 (⟨#[]⟩ : ByteArray) ([] : List Ev.Val)), ()), ((Ev.Val.mk y6.kind y6.n y6.s y6.l), ()), ()))))

noncomputable def q52z : Nat → Ev.Val × Ev.Val × Unit → Option (Ev.Val × Unit)
  | 0, _ => none
  | n + 1, x => q52z_b (q52z n) n x

noncomputable def q51z (n : Nat) : Ev.Val × Ev.Val × Unit → Option (Ev.Val × Unit) :=
  fun (a1, a2, _) =>
  (bif ((a1.kind : Int) != a2.kind) || (((a1.kind : Int) != 2) && ((a1.kind : Int) != 3)) then some ((Ev.Val.mk 0 0 (⟨#[]⟩ : ByteArray) ([] : List Ev.Val)), ())
  else
  (q38z n ((Ev.Val.mk a1.kind a1.n a1.s a1.l), (Ev.Val.mk a2.kind a2.n a2.s a2.l), ())).bind fun (y3, _) =>
  (q41z (decide ((y3 : Int) < 0), ())).bind fun (y4, _) => some ((Ev.Val.mk y4.kind y4.n y4.s y4.l), ()))

noncomputable def q48z : Ev.Val × Unit → Option (Bool × Bool × Unit) :=
  fun (a1, _) => some ((a1.n : Int) == 1, (a1.kind : Int) == 1, ())

noncomputable def q49z : Bool × Unit → Option (Ev.Val × Unit) :=
  fun (a1, _) =>
  (bif a1 then some ((Ev.Val.mk 1 1 (⟨#[]⟩ : ByteArray) ([] : List Ev.Val)), ())
  else some ((Ev.Val.mk 1 0 (⟨#[]⟩ : ByteArray) ([] : List Ev.Val)), ()))

noncomputable def q36z : Ev.Val × Unit → Option (Ev.Val × Unit) :=
  fun (a1, _) =>
  (q48z ((Ev.Val.mk a1.kind a1.n a1.s a1.l), ())).bind fun (y2, y3, _) =>
  (bif y3 then
  (q49z (!y2, ())).bind fun (y4, _) => some ((Ev.Val.mk y4.kind y4.n y4.s y4.l), ())
  else some ((Ev.Val.mk 0 0 (⟨#[]⟩ : ByteArray) ([] : List Ev.Val)), ()))

noncomputable def q35z : Ev.Val × Ev.Val × Unit → Option (Ev.Val × Unit) :=
  fun (a1, a2, _) =>
  (q48z ((Ev.Val.mk a1.kind a1.n a1.s a1.l), ())).bind fun (y3, y4, _) =>
  (q48z ((Ev.Val.mk a2.kind a2.n a2.s a2.l), ())).bind fun (y5, y6, _) =>
  (bif (y4 && y3) || (y6 && y5) then
  (q49z (true, ())).bind fun (y7, _) => some ((Ev.Val.mk y7.kind y7.n y7.s y7.l), ())
  else
  (bif y4 && y6 then
  (q49z (false, ())).bind fun (y8, _) => some ((Ev.Val.mk y8.kind y8.n y8.s y8.l), ())
  else some ((Ev.Val.mk 0 0 (⟨#[]⟩ : ByteArray) ([] : List Ev.Val)), ())))

noncomputable def q28z_s1 {ρ : Type} (n : Nat) (rec : (List Ev.Val) × (List Ev.Val) × Int × Int × (Ev.Val × Unit) × (Ev.Val × Unit) × Unit → Option ρ) (kx : (Ev.Val × Unit) × (Ev.Val × Unit) × Unit → Option ρ) (kr : Unit → Option ρ) : (List Ev.Val) × (List Ev.Val) × Int × Int × (Ev.Val × Unit) × (Ev.Val × Unit) × Unit → Option ρ :=
  fun (v53, v54, v55, v56, o57, o58, _) =>
  (bif decide ((v56 : Int) < v55) then
  (ix v54 v56).bind fun x59 =>
  (ix v53 0).bind fun x62 =>
  (q52z n ((Ev.Val.mk x62.kind x62.n x62.s x62.l), (Ev.Val.mk x59.kind x59.n x59.s x59.l), ())).bind fun (y63, _) =>
  (q35z ((Ev.Val.mk o58.1.kind o58.1.n o58.1.s o58.1.l), (Ev.Val.mk y63.kind y63.n y63.s y63.l), ())).bind fun (y64, _) => rec (v53, v54, v55, IntKind.wrap .i64 (v56 + 1), ((Ev.Val.mk o57.1.kind o57.1.n o57.1.s o57.1.l), ()), ((Ev.Val.mk y64.kind y64.n y64.s y64.l), ()), ())
  else kx (((Ev.Val.mk o57.1.kind o57.1.n o57.1.s o57.1.l), ()), ((Ev.Val.mk o58.1.kind o58.1.n o58.1.s o58.1.l), ()), ()))

noncomputable def q28z_s4 {ρ : Type} (n : Nat) (rec : (List Ev.Val) × Int × Int × (Ev.Val × Unit) × Unit → Option ρ) (kx : (Ev.Val × Unit) × Unit → Option ρ) (kr : (Ev.Val × Unit) × Unit → Option ρ) : (List Ev.Val) × Int × Int × (Ev.Val × Unit) × Unit → Option ρ :=
  fun (v75, v76, v77, o78, _) =>
  (bif decide ((v77 : Int) < v76) then
  (ix v75 v77).bind fun x79 =>
  (bif (x79.kind : Int) != 0 then kr (((Ev.Val.mk x79.kind x79.n x79.s x79.l), ()), ())
  else rec (v75, v76, IntKind.wrap .i64 (v77 + 1), ((Ev.Val.mk o78.1.kind o78.1.n o78.1.s o78.1.l), ()), ()))
  else kx (((Ev.Val.mk o78.1.kind o78.1.n o78.1.s o78.1.l), ()), ()))

noncomputable def F_q28z_s1 {ρ : Type} (n : Nat) (kr : Unit → Option ρ) : Int → Ev.Val → ((List Ev.Val) × (Ev.Val × Unit) × (Ev.Val × Unit) × Unit) → (((List Ev.Val) × (Ev.Val × Unit) × (Ev.Val × Unit) × Unit) → Option ρ) → Option ρ :=
  fun v56 x59 (v53, o57, o58, _) rec =>
  (ix v53 0).bind fun x62 =>
  (q52z n ((Ev.Val.mk x62.kind x62.n x62.s x62.l), (Ev.Val.mk x59.kind x59.n x59.s x59.l), ())).bind fun (y63, _) =>
  (q35z ((Ev.Val.mk o58.1.kind o58.1.n o58.1.s o58.1.l), (Ev.Val.mk y63.kind y63.n y63.s y63.l), ())).bind fun (y64, _) => rec (v53, ((Ev.Val.mk o57.1.kind o57.1.n o57.1.s o57.1.l), ()), ((Ev.Val.mk y64.kind y64.n y64.s y64.l), ()), ())

theorem R_q28z_s1 {ρ : Type} (n : Nat) (kx : (Ev.Val × Unit) × (Ev.Val × Unit) × Unit → Option ρ) (kr : Unit → Option ρ) (l : List Ev.Val) (fuel : Nat) (v53 : List Ev.Val) (o57 : Ev.Val × Unit) (o58 : Ev.Val × Unit) (hl : l.length ≤ 9223372036854775807) (hf : l.length < fuel) :
    iterN (fun rc => q28z_s1 n rc kx kr) fuel (v53, l, (l.length : Int), 0, o57, o58, ()) = foldK (F_q28z_s1 n kr) (fun (v53, o57, o58, _) => kx (((Ev.Val.mk o57.1.kind o57.1.n o57.1.s o57.1.l), ()), ((Ev.Val.mk o58.1.kind o58.1.n o58.1.s o58.1.l), ()), ())) 0 l (v53, o57, o58, ()) :=
  range_listM l (fun i (v53, o57, o58, _) => (v53, l, (l.length : Int), i, o57, o58, ())) _ _ _ (fun rec i s => rfl) hl fuel (v53, o57, o58, ()) hf

noncomputable def F_q28z_s4 {ρ : Type} (n : Nat) (kr : (Ev.Val × Unit) × Unit → Option ρ) : Int → Ev.Val → ((Ev.Val × Unit) × Unit) → (((Ev.Val × Unit) × Unit) → Option ρ) → Option ρ :=
  fun v77 x79 (o78, _) rec =>
  (bif (x79.kind : Int) != 0 then kr (((Ev.Val.mk x79.kind x79.n x79.s x79.l), ()), ())
  else rec (((Ev.Val.mk o78.1.kind o78.1.n o78.1.s o78.1.l), ()), ()))

theorem R_q28z_s4 {ρ : Type} (n : Nat) (kx : (Ev.Val × Unit) × Unit → Option ρ) (kr : (Ev.Val × Unit) × Unit → Option ρ) (l : List Ev.Val) (fuel : Nat) (o78 : Ev.Val × Unit) (hl : l.length ≤ 9223372036854775807) (hf : l.length < fuel) :
    iterN (fun rc => q28z_s4 n rc kx kr) fuel (l, (l.length : Int), 0, o78, ()) = foldK (F_q28z_s4 n kr) (fun (o78, _) => kx (((Ev.Val.mk o78.1.kind o78.1.n o78.1.s o78.1.l), ()), ())) 0 l (o78, ()) :=
  range_listM l (fun i (o78, _) => (l, (l.length : Int), i, o78, ())) _ _ _ (fun rec i s => rfl) hl fuel (o78, ()) hf

noncomputable def q28z (n : Nat) : Ev.Envr × Ev.Term × (List Ev.Val) × Unit → Option (Ev.Val × Unit) :=
  fun (a1, a2, a3, _) =>
  (bif seq a2.name (⟨#[43]⟩ : ByteArray) then
  (bif seq a2.name (⟨#[43]⟩ : ByteArray) then
  (ix a3 0).bind fun x7 =>
  (ix a3 1).bind fun x8 =>
  (q32z n (a2.name, (Ev.Val.mk x7.kind x7.n x7.s x7.l), (Ev.Val.mk x8.kind x8.n x8.s x8.l), ())).bind fun (y9, y10, _) =>
  (q37z n ((Ev.Val.mk y9.kind y9.n y9.s y9.l), ())).bind fun (y11, _) =>
  (bif (y11 : Int) != 0 then some ((Ev.Val.mk 0 0 (⟨#[]⟩ : ByteArray) ([] : List Ev.Val)), ())
  else some ((Ev.Val.mk y9.kind y9.n y9.s y9.l), ()))
  else
  (bif seq a2.name (⟨#[61]⟩ : ByteArray) then
  (ix a3 0).bind fun x15 =>
  (ix a3 1).bind fun x16 =>
  (q52z n ((Ev.Val.mk x15.kind x15.n x15.s x15.l), (Ev.Val.mk x16.kind x16.n x16.s x16.l), ())).bind fun (y17, _) => some ((Ev.Val.mk y17.kind y17.n y17.s y17.l), ())
  else
  (bif seq a2.name (⟨#[60]⟩ : ByteArray) then
  (ix a3 0).bind fun x21 =>
  (ix a3 1).bind fun x22 =>
  (q51z n ((Ev.Val.mk x21.kind x21.n x21.s x21.l), (Ev.Val.mk x22.kind x22.n x22.s x22.l), ())).bind fun (y23, _) => some ((Ev.Val.mk y23.kind y23.n y23.s y23.l), ())
  else
  (bif seq a2.name (⟨#[60, 61]⟩ : ByteArray) then
  (ix a3 1).bind fun x27 =>
  (ix a3 0).bind fun x28 =>
  (q51z n ((Ev.Val.mk x27.kind x27.n x27.s x27.l), (Ev.Val.mk x28.kind x28.n x28.s x28.l), ())).bind fun (y29, _) =>
  (q36z ((Ev.Val.mk y29.kind y29.n y29.s y29.l), ())).bind fun (y30, _) => some ((Ev.Val.mk y30.kind y30.n y30.s y30.l), ())
  else
  (bif seq a2.name (⟨#[97, 110, 100]⟩ : ByteArray) then
  (ix a3 0).bind fun x34 =>
  (q36z ((Ev.Val.mk x34.kind x34.n x34.s x34.l), ())).bind fun (y35, _) =>
  (ix a3 1).bind fun x36 =>
  (q36z ((Ev.Val.mk x36.kind x36.n x36.s x36.l), ())).bind fun (y37, _) =>
  (q35z ((Ev.Val.mk y35.kind y35.n y35.s y35.l), (Ev.Val.mk y37.kind y37.n y37.s y37.l), ())).bind fun (y38, _) =>
  (q36z ((Ev.Val.mk y38.kind y38.n y38.s y38.l), ())).bind fun (y39, _) => some ((Ev.Val.mk y39.kind y39.n y39.s y39.l), ())
  else
  (bif seq a2.name (⟨#[111, 114]⟩ : ByteArray) then
  (ix a3 0).bind fun x43 =>
  (ix a3 1).bind fun x44 =>
  (q35z ((Ev.Val.mk x43.kind x43.n x43.s x43.l), (Ev.Val.mk x44.kind x44.n x44.s x44.l), ())).bind fun (y45, _) => some ((Ev.Val.mk y45.kind y45.n y45.s y45.l), ())
  else
  (bif seq a2.name (⟨#[110, 111, 116]⟩ : ByteArray) then
  (ix a3 0).bind fun x46 =>
  (q36z ((Ev.Val.mk x46.kind x46.n x46.s x46.l), ())).bind fun (y47, _) => some ((Ev.Val.mk y47.kind y47.n y47.s y47.l), ())
  else
  (bif seq a2.name (⟨#[110, 117, 108, 108]⟩ : ByteArray) then
  (ix a3 0).bind fun x48 =>
  (q49z ((x48.kind : Int) == 0, ())).bind fun (y49, _) => some ((Ev.Val.mk y49.kind y49.n y49.s y49.l), ())
  else
  (bif seq a2.name (⟨#[105, 110]⟩ : ByteArray) then
  (ix a3 1).bind fun x50 =>
  (bif (x50.kind : Int) != 4 then some ((Ev.Val.mk 0 0 (⟨#[]⟩ : ByteArray) ([] : List Ev.Val)), ())
  else
  (q49z (false, ())).bind fun (y51, _) =>
  (ix a3 1).bind fun x52 =>
  iterN (fun rc67 => q28z_s1 n rc67 (fun (o65, o66, _) => some ((Ev.Val.mk o66.1.kind o66.1.n o66.1.s o66.1.l), ())) (fun (_) => none)) (n) (a3, x52.l, (x52.l.length : Int), 0, ((Ev.Val.mk 0 0 (⟨#[]⟩ : ByteArray) ([] : List Ev.Val)), ()), ((Ev.Val.mk y51.kind y51.n y51.s y51.l), ()), ()))
  else
  (bif seq a2.name (⟨#[115, 105, 122, 101]⟩ : ByteArray) then
  (ix a3 0).bind fun x68 =>
  (bif (x68.kind : Int) == 3 then
  (ix a3 0).bind fun x69 => some ((Ev.Val.mk 2 ((runesI x69.s).length : Int) (⟨#[]⟩ : ByteArray) ([] : List Ev.Val)), ())
  else
  (bif (x68.kind : Int) == 4 then
  (ix a3 0).bind fun x70 => some ((Ev.Val.mk 2 (x70.l.length : Int) (⟨#[]⟩ : ByteArray) ([] : List Ev.Val)), ())
  else some ((Ev.Val.mk 0 0 (⟨#[]⟩ : ByteArray) ([] : List Ev.Val)), ())))
  else
  (bif seq a2.name (⟨#[104, 101, 97, 100]⟩ : ByteArray) then
  (ix a3 0).bind fun x71 =>
  (bif (x71.kind : Int) == 4 then
  (ix a3 0).bind fun x72 =>
  (bif decide (((x72.l.length : Int) : Int) > 0) then
  (ix a3 0).bind fun x73 =>
  (ix x73.l 0).bind fun x74 => some ((Ev.Val.mk x74.kind x74.n x74.s x74.l), ())
  else some ((Ev.Val.mk 0 0 (⟨#[]⟩ : ByteArray) ([] : List Ev.Val)), ()))
  else some ((Ev.Val.mk 0 0 (⟨#[]⟩ : ByteArray) ([] : List Ev.Val)), ()))
  else
  (bif seq a2.name (⟨#[99, 111, 97, 108, 101, 115, 99, 101]⟩ : ByteArray) then
  iterN (fun rc82 => q28z_s4 n rc82 (fun (o80, _) => some ((Ev.Val.mk 0 0 (⟨#[]⟩ : ByteArray) ([] : List Ev.Val)), ())) (fun (o81, _) => some ((Ev.Val.mk o81.1.kind o81.1.n o81.1.s o81.1.l), ()))) (n) (a3, (a3.length : Int), 0, ((Ev.Val.mk 0 0 (⟨#[]⟩ : ByteArray) ([] : List Ev.Val)), ()), ())
  else
  (bif seq a2.name (⟨#[108, 105, 115, 116]⟩ : ByteArray) then
  (q37z n ((Ev.Val.mk 4 0 (⟨#[]⟩ : ByteArray) a3), ())).bind fun (y83, _) =>
  (bif (y83 : Int) == 0 then some ((Ev.Val.mk 4 0 (⟨#[]⟩ : ByteArray) a3), ())
  else some ((Ev.Val.mk 0 0 (⟨#[]⟩ : ByteArray) ([] : List Ev.Val)), ()))
  else
  (bif seq a2.name (⟨#[105, 100]⟩ : ByteArray) then
  (ix a3 0).bind fun x84 => some ((Ev.Val.mk x84.kind x84.n x84.s x84.l), ())
  else
  (bif seq a2.name (⟨#[116, 121, 112, 101]⟩ : ByteArray) then
  (ix a3 0).bind fun x86 =>
  (q22z n ((Ev.Graph.mk a1.g.nodes a1.g.edges a1.g.next), x86.n, ())).bind fun (y87, _) =>
  (bif decide ((y87 : Int) ≥ 0) then
  (ix a1.g.edges y87).bind fun x88 => some ((Ev.Val.mk 3 0 x88.type ([] : List Ev.Val)), ())
  else some ((Ev.Val.mk 0 0 (⟨#[]⟩ : ByteArray) ([] : List Ev.Val)), ()))
  else some ((Ev.Val.mk 0 0 (⟨#[]⟩ : ByteArray) ([] : List Ev.Val)), ()))))))))))))))))
  else
  (bif seq a2.name (⟨#[45]⟩ : ByteArray) then
  (bif seq a2.name (⟨#[45]⟩ : ByteArray) then
  (ix a3 0).bind fun x92 =>
  (ix a3 1).bind fun x93 =>
  (q32z n (a2.name, (Ev.Val.mk x92.kind x92.n x92.s x92.l), (Ev.Val.mk x93.kind x93.n x93.s x93.l), ())).bind fun (y94, y95, _) =>
  (q37z n ((Ev.Val.mk y94.kind y94.n y94.s y94.l), ())).bind fun (y96, _) =>
  (bif (y96 : Int) != 0 then some ((Ev.Val.mk 0 0 (⟨#[]⟩ : ByteArray) ([] : List Ev.Val)), ())
  else some ((Ev.Val.mk y94.kind y94.n y94.s y94.l), ()))
  else
  (bif seq a2.name (⟨#[61]⟩ : ByteArray) then
  (ix a3 0).bind fun x100 =>
  (ix a3 1).bind fun x101 =>
  (q52z n ((Ev.Val.mk x100.kind x100.n x100.s x100.l), (Ev.Val.mk x101.kind x101.n x101.s x101.l), ())).bind fun (y102, _) => some ((Ev.Val.mk y102.kind y102.n y102.s y102.l), ())
  else
  (bif seq a2.name (⟨#[60]⟩ : ByteArray) then
  (ix a3 0).bind fun x106 =>
  (ix a3 1).bind fun x107 =>
  (q51z n ((Ev.Val.mk x106.kind x106.n x106.s x106.l), (Ev.Val.mk x107.kind x107.n x107.s x107.l), ())).bind fun (y108, _) => some ((Ev.Val.mk y108.kind y108.n y108.s y108.l), ())
  else
  (bif seq a2.name (⟨#[60, 61]⟩ : ByteArray) then
  (ix a3 1).bind fun x112 =>
  (ix a3 0).bind fun x113 =>
  (q51z n ((Ev.Val.mk x112.kind x112.n x112.s x112.l), (Ev.Val.mk x113.kind x113.n x113.s x113.l), ())).bind fun (y114, _) =>
  (q36z ((Ev.Val.mk y114.kind y114.n y114.s y114.l), ())).bind fun (y115, _) => some ((Ev.Val.mk y115.kind y115.n y115.s y115.l), ())
  else
  (bif seq a2.name (⟨#[97, 110, 100]⟩ : ByteArray) then
  (ix a3 0).bind fun x119 =>
  (q36z ((Ev.Val.mk x119.kind x119.n x119.s x119.l), ())).bind fun (y120, _) =>
  (ix a3 1).bind fun x121 =>
  (q36z ((Ev.Val.mk x121.kind x121.n x121.s x121.l), ())).bind fun (y122, _) =>
  (q35z ((Ev.Val.mk y120.kind y120.n y120.s y120.l), (Ev.Val.mk y122.kind y122.n y122.s y122.l), ())).bind fun (y123, _) =>
  (q36z ((Ev.Val.mk y123.kind y123.n y123.s y123.l), ())).bind fun (y124, _) => some ((Ev.Val.mk y124.kind y124.n y124.s y124.l), ())
  else
  (bif seq a2.name (⟨#[111, 114]⟩ : ByteArray) then
  (ix a3 0).bind fun x128 =>
  (ix a3 1).bind fun x129 =>
  (q35z ((Ev.Val.mk x128.kind x128.n x128.s x128.l), (Ev.Val.mk x129.kind x129.n x129.s x129.l), ())).bind fun (y130, _) => some ((Ev.Val.mk y130.kind y130.n y130.s y130.l), ())
  else
  (bif seq a2.name (⟨#[110, 111, 116]⟩ : ByteArray) then
  (ix a3 0).bind fun x131 =>
  (q36z ((Ev.Val.mk x131.kind x131.n x131.s x131.l), ())).bind fun (y132, _) => some ((Ev.Val.mk y132.kind y132.n y132.s y132.l), ())
  else
  (bif seq a2.name (⟨#[110, 117, 108, 108]⟩ : ByteArray) then
  (ix a3 0).bind fun x133 =>
  (q49z ((x133.kind : Int) == 0, ())).bind fun (y134, _) => some ((Ev.Val.mk y134.kind y134.n y134.s y134.l), ())
  else
  (bif seq a2.name (⟨#[105, 110]⟩ : ByteArray) then
  (ix a3 1).bind fun x135 =>
  (bif (x135.kind : Int) != 4 then some ((Ev.Val.mk 0 0 (⟨#[]⟩ : ByteArray) ([] : List Ev.Val)), ())
  else
  (q49z (false, ())).bind fun (y136, _) =>
  (ix a3 1).bind fun x137 =>
  iterN (fun rc140 => q28z_s1 n rc140 (fun (o138, o139, _) => some ((Ev.Val.mk o139.1.kind o139.1.n o139.1.s o139.1.l), ())) (fun (_) => none)) (n) (a3, x137.l, (x137.l.length : Int), 0, ((Ev.Val.mk 0 0 (⟨#[]⟩ : ByteArray) ([] : List Ev.Val)), ()), ((Ev.Val.mk y136.kind y136.n y136.s y136.l), ()), ()))
  else
  (bif seq a2.name (⟨#[115, 105, 122, 101]⟩ : ByteArray) then
  (ix a3 0).bind fun x141 =>
  (bif (x141.kind : Int) == 3 then
  (ix a3 0).bind fun x142 => some ((Ev.Val.mk 2 ((runesI x142.s).length : Int) (⟨#[]⟩ : ByteArray) ([] : List Ev.Val)), ())
  else
  (bif (x141.kind : Int) == 4 then
  (ix a3 0).bind fun x143 => some ((Ev.Val.mk 2 (x143.l.length : Int) (⟨#[]⟩ : ByteArray) ([] : List Ev.Val)), ())
  else some ((Ev.Val.mk 0 0 (⟨#[]⟩ : ByteArray) ([] : List Ev.Val)), ())))
  else
  (bif seq a2.name (⟨#[104, 101, 97, 100]⟩ : ByteArray) then
  (ix a3 0).bind fun x144 =>
  (bif (x144.kind : Int) == 4 then
  (ix a3 0).bind fun x145 =>
  (bif decide (((x145.l.length : Int) : Int) > 0) then
  (ix a3 0).bind fun x146 =>
  (ix x146.l 0).bind fun x147 => some ((Ev.Val.mk x147.kind x147.n x147.s x147.l), ())
  else some ((Ev.Val.mk 0 0 (⟨#[]⟩ : ByteArray) ([] : List Ev.Val)), ()))
  else some ((Ev.Val.mk 0 0 (⟨#[]⟩ : ByteArray) ([] : List Ev.Val)), ()))
  else
  (bif seq a2.name (⟨#[99, 111, 97, 108, 101, 115, 99, 101]⟩ : ByteArray) then
  iterN (fun rc150 => q28z_s4 n rc150 (fun (o148, _) => some ((Ev.Val.mk 0 0 (⟨#[]⟩ : ByteArray) ([] : List Ev.Val)), ())) (fun (o149, _) => some ((Ev.Val.mk o149.1.kind o149.1.n o149.1.s o149.1.l), ()))) (n) (a3, (a3.length : Int), 0, ((Ev.Val.mk 0 0 (⟨#[]⟩ : ByteArray) ([] : List Ev.Val)), ()), ())
  else
  (bif seq a2.name (⟨#[108, 105, 115, 116]⟩ : ByteArray) then
  (q37z n ((Ev.Val.mk 4 0 (⟨#[]⟩ : ByteArray) a3), ())).bind fun (y151, _) =>
  (bif (y151 : Int) == 0 then some ((Ev.Val.mk 4 0 (⟨#[]⟩ : ByteArray) a3), ())
  else some ((Ev.Val.mk 0 0 (⟨#[]⟩ : ByteArray) ([] : List Ev.Val)), ()))
  else
  (bif seq a2.name (⟨#[105, 100]⟩ : ByteArray) then
  (ix a3 0).bind fun x152 => some ((Ev.Val.mk x152.kind x152.n x152.s x152.l), ())
  else
  (bif seq a2.name (⟨#[116, 121, 112, 101]⟩ : ByteArray) then
  (ix a3 0).bind fun x154 =>
  (q22z n ((Ev.Graph.mk a1.g.nodes a1.g.edges a1.g.next), x154.n, ())).bind fun (y155, _) =>
  (bif decide ((y155 : Int) ≥ 0) then
  (ix a1.g.edges y155).bind fun x156 => some ((Ev.Val.mk 3 0 x156.type ([] : List Ev.Val)), ())
  else some ((Ev.Val.mk 0 0 (⟨#[]⟩ : ByteArray) ([] : List Ev.Val)), ()))
  else some ((Ev.Val.mk 0 0 (⟨#[]⟩ : ByteArray) ([] : List Ev.Val)), ()))))))))))))))))
  else
  (bif seq a2.name (⟨#[42]⟩ : ByteArray) then
  (ix a3 0).bind fun x160 =>
  (ix a3 1).bind fun x161 =>
  (q32z n (a2.name, (Ev.Val.mk x160.kind x160.n x160.s x160.l), (Ev.Val.mk x161.kind x161.n x161.s x161.l), ())).bind fun (y162, y163, _) =>
  (q37z n ((Ev.Val.mk y162.kind y162.n y162.s y162.l), ())).bind fun (y164, _) =>
  (bif (y164 : Int) != 0 then some ((Ev.Val.mk 0 0 (⟨#[]⟩ : ByteArray) ([] : List Ev.Val)), ())
  else some ((Ev.Val.mk y162.kind y162.n y162.s y162.l), ()))
  else
  (bif seq a2.name (⟨#[61]⟩ : ByteArray) then
  (ix a3 0).bind fun x168 =>
  (ix a3 1).bind fun x169 =>
  (q52z n ((Ev.Val.mk x168.kind x168.n x168.s x168.l), (Ev.Val.mk x169.kind x169.n x169.s x169.l), ())).bind fun (y170, _) => some ((Ev.Val.mk y170.kind y170.n y170.s y170.l), ())
  else
  (bif seq a2.name (⟨#[60]⟩ : ByteArray) then
  (ix a3 0).bind fun x174 =>
  (ix a3 1).bind fun x175 =>
  (q51z n ((Ev.Val.mk x174.kind x174.n x174.s x174.l), (Ev.Val.mk x175.kind x175.n x175.s x175.l), ())).bind fun (y176, _) => some ((Ev.Val.mk y176.kind y176.n y176.s y176.l), ())
  else
  (bif seq a2.name (⟨#[60, 61]⟩ : ByteArray) then
  (ix a3 1).bind fun x180 =>
  (ix a3 0).bind fun x181 =>
  (q51z n ((Ev.Val.mk x180.kind x180.n x180.s x180.l), (Ev.Val.mk x181.kind x181.n x181.s x181.l), ())).bind fun (y182, _) =>
  (q36z ((Ev.Val.mk y182.kind y182.n y182.s y182.l), ())).bind fun (y183, _) => some ((Ev.Val.mk y183.kind y183.n y183.s y183.l), ())
  else
  (bif seq a2.name (⟨#[97, 110, 100]⟩ : ByteArray) then
  (ix a3 0).bind fun x187 =>
  (q36z ((Ev.Val.mk x187.kind x187.n x187.s x187.l), ())).bind fun (y188, _) =>
  (ix a3 1).bind fun x189 =>
  (q36z ((Ev.Val.mk x189.kind x189.n x189.s x189.l), ())).bind fun (y190, _) =>
  (q35z ((Ev.Val.mk y188.kind y188.n y188.s y188.l), (Ev.Val.mk y190.kind y190.n y190.s y190.l), ())).bind fun (y191, _) =>
  (q36z ((Ev.Val.mk y191.kind y191.n y191.s y191.l), ())).bind fun (y192, _) => some ((Ev.Val.mk y192.kind y192.n y192.s y192.l), ())
  else
  (bif seq a2.name (⟨#[111, 114]⟩ : ByteArray) then
  (ix a3 0).bind fun x196 =>
  (ix a3 1).bind fun x197 =>
  (q35z ((Ev.Val.mk x196.kind x196.n x196.s x196.l), (Ev.Val.mk x197.kind x197.n x197.s x197.l), ())).bind fun (y198, _) => some ((Ev.Val.mk y198.kind y198.n y198.s y198.l), ())
  else
  (bif seq a2.name (⟨#[110, 111, 116]⟩ : ByteArray) then
  (ix a3 0).bind fun x199 =>
  (q36z ((Ev.Val.mk x199.kind x199.n x199.s x199.l), ())).bind fun (y200, _) => some ((Ev.Val.mk y200.kind y200.n y200.s y200.l), ())
  else
  (bif seq a2.name (⟨#[110, 117, 108, 108]⟩ : ByteArray) then
  (ix a3 0).bind fun x201 =>
  (q49z ((x201.kind : Int) == 0, ())).bind fun (y202, _) => some ((Ev.Val.mk y202.kind y202.n y202.s y202.l), ())
  else
  (bif seq a2.name (⟨#[105, 110]⟩ : ByteArray) then
  (ix a3 1).bind fun x203 =>
  (bif (x203.kind : Int) != 4 then some ((Ev.Val.mk 0 0 (⟨#[]⟩ : ByteArray) ([] : List Ev.Val)), ())
  else
  (q49z (false, ())).bind fun (y204, _) =>
  (ix a3 1).bind fun x205 =>
  iterN (fun rc208 => q28z_s1 n rc208 (fun (o206, o207, _) => some ((Ev.Val.mk o207.1.kind o207.1.n o207.1.s o207.1.l), ())) (fun (_) => none)) (n) (a3, x205.l, (x205.l.length : Int), 0, ((Ev.Val.mk 0 0 (⟨#[]⟩ : ByteArray) ([] : List Ev.Val)), ()), ((Ev.Val.mk y204.kind y204.n y204.s y204.l), ()), ()))
  else
  (bif seq a2.name (⟨#[115, 105, 122, 101]⟩ : ByteArray) then
  (ix a3 0).bind fun x209 =>
  (bif (x209.kind : Int) == 3 then
  (ix a3 0).bind fun x210 => some ((Ev.Val.mk 2 ((runesI x210.s).length : Int) (⟨#[]⟩ : ByteArray) ([] : List Ev.Val)), ())
  else
  (bif (x209.kind : Int) == 4 then
  (ix a3 0).bind fun x211 => some ((Ev.Val.mk 2 (x211.l.length : Int) (⟨#[]⟩ : ByteArray) ([] : List Ev.Val)), ())
  else some ((Ev.Val.mk 0 0 (⟨#[]⟩ : ByteArray) ([] : List Ev.Val)), ())))
  else
  (bif seq a2.name (⟨#[104, 101, 97, 100]⟩ : ByteArray) then
  (ix a3 0).bind fun x212 =>
  (bif (x212.kind : Int) == 4 then
  (ix a3 0).bind fun x213 =>
  (bif decide (((x213.l.length : Int) : Int) > 0) then
  (ix a3 0).bind fun x214 =>
  (ix x214.l 0).bind fun x215 => some ((Ev.Val.mk x215.kind x215.n x215.s x215.l), ())
  else some ((Ev.Val.mk 0 0 (⟨#[]⟩ : ByteArray) ([] : List Ev.Val)), ()))
  else some ((Ev.Val.mk 0 0 (⟨#[]⟩ : ByteArray) ([] : List Ev.Val)), ()))
  else
  (bif seq a2.name (⟨#[99, 111, 97, 108, 101, 115, 99, 101]⟩ : ByteArray) then
  iterN (fun rc218 => q28z_s4 n rc218 (fun (o216, _) => some ((Ev.Val.mk 0 0 (⟨#[]⟩ : ByteArray) ([] : List Ev.Val)), ())) (fun (o217, _) => some ((Ev.Val.mk o217.1.kind o217.1.n o217.1.s o217.1.l), ()))) (n) (a3, (a3.length : Int), 0, ((Ev.Val.mk 0 0 (⟨#[]⟩ : ByteArray) ([] : List Ev.Val)), ()), ())
  else
  (bif seq a2.name (⟨#[108, 105, 115, 116]⟩ : ByteArray) then
  (q37z n ((Ev.Val.mk 4 0 (⟨#[]⟩ : ByteArray) a3), ())).bind fun (y219, _) =>
  (bif (y219 : Int) == 0 then some ((Ev.Val.mk 4 0 (⟨#[]⟩ : ByteArray) a3), ())
  else some ((Ev.Val.mk 0 0 (⟨#[]⟩ : ByteArray) ([] : List Ev.Val)), ()))
  else
  (bif seq a2.name (⟨#[105, 100]⟩ : ByteArray) then
  (ix a3 0).bind fun x220 => some ((Ev.Val.mk x220.kind x220.n x220.s x220.l), ())
  else
  (bif seq a2.name (⟨#[116, 121, 112, 101]⟩ : ByteArray) then
  (ix a3 0).bind fun x222 =>
  (q22z n ((Ev.Graph.mk a1.g.nodes a1.g.edges a1.g.next), x222.n, ())).bind fun (y223, _) =>
  (bif decide ((y223 : Int) ≥ 0) then
  (ix a1.g.edges y223).bind fun x224 => some ((Ev.Val.mk 3 0 x224.type ([] : List Ev.Val)), ())
  else some ((Ev.Val.mk 0 0 (⟨#[]⟩ : ByteArray) ([] : List Ev.Val)), ()))
  else some ((Ev.Val.mk 0 0 (⟨#[]⟩ : ByteArray) ([] : List Ev.Val)), ()))))))))))))))))))

noncomputable def q23z_s1 {ρ : Type} (self_q23z : Ev.Envr × Ev.Term × Unit → Option (Ev.Val × Unit)) (n : Nat) (rec : (List Ev.Term) × Int × Int × (Ev.Envr × Unit) × (Ev.Term × Unit) × (Ev.Val × Unit) × (List Ev.Val) × Unit → Option ρ) (kx : (Ev.Envr × Unit) × (Ev.Term × Unit) × (Ev.Val × Unit) × (List Ev.Val) × Unit → Option ρ) (kr : Unit → Option ρ) : (List Ev.Term) × Int × Int × (Ev.Envr × Unit) × (Ev.Term × Unit) × (Ev.Val × Unit) × (List Ev.Val) × Unit → Option ρ :=
  fun (v8, v9, v10, o11, o12, o13, o14, _) =>
  (bif decide ((v10 : Int) < v9) then
  (ix v8 v10).bind fun x15 =>
  (self_q23z ((Ev.Envr.mk (Ev.Graph.mk o11.1.g.nodes o11.1.g.edges o11.1.g.next) o11.1.at_), (Ev.Term.mk x15.kind (Ev.Val.mk x15.v.kind x15.v.n x15.v.s x15.v.l) x15.name x15.a), ())).bind fun (y16, _) =>
  ck (room (o14 ++ ([(Ev.Val.mk y16.kind y16.n y16.s y16.l)] : List Ev.Val)).length 56) (rec (v8, v9, IntKind.wrap .i64 (v10 + 1), ((Ev.Envr.mk (Ev.Graph.mk o11.1.g.nodes o11.1.g.edges o11.1.g.next) o11.1.at_), ()), ((Ev.Term.mk o12.1.kind (Ev.Val.mk o12.1.v.kind o12.1.v.n o12.1.v.s o12.1.v.l) o12.1.name o12.1.a), ()), ((Ev.Val.mk o13.1.kind o13.1.n o13.1.s o13.1.l), ()), o14 ++ ([(Ev.Val.mk y16.kind y16.n y16.s y16.l)] : List Ev.Val), ()))
  else kx (((Ev.Envr.mk (Ev.Graph.mk o11.1.g.nodes o11.1.g.edges o11.1.g.next) o11.1.at_), ()), ((Ev.Term.mk o12.1.kind (Ev.Val.mk o12.1.v.kind o12.1.v.n o12.1.v.s o12.1.v.l) o12.1.name o12.1.a), ()), ((Ev.Val.mk o13.1.kind o13.1.n o13.1.s o13.1.l), ()), o14, ()))

noncomputable def F_q23z_s1 {ρ : Type} (self_q23z : Ev.Envr × Ev.Term × Unit → Option (Ev.Val × Unit)) (n : Nat) (kr : Unit → Option ρ) : Int → Ev.Term → ((Ev.Envr × Unit) × (Ev.Term × Unit) × (Ev.Val × Unit) × (List Ev.Val) × Unit) → (((Ev.Envr × Unit) × (Ev.Term × Unit) × (Ev.Val × Unit) × (List Ev.Val) × Unit) → Option ρ) → Option ρ :=
  fun v10 x15 (o11, o12, o13, o14, _) rec =>
  (self_q23z ((Ev.Envr.mk (Ev.Graph.mk o11.1.g.nodes o11.1.g.edges o11.1.g.next) o11.1.at_), (Ev.Term.mk x15.kind (Ev.Val.mk x15.v.kind x15.v.n x15.v.s x15.v.l) x15.name x15.a), ())).bind fun (y16, _) =>
  ck (room (o14 ++ ([(Ev.Val.mk y16.kind y16.n y16.s y16.l)] : List Ev.Val)).length 56) (rec (((Ev.Envr.mk (Ev.Graph.mk o11.1.g.nodes o11.1.g.edges o11.1.g.next) o11.1.at_), ()), ((Ev.Term.mk o12.1.kind (Ev.Val.mk o12.1.v.kind o12.1.v.n o12.1.v.s o12.1.v.l) o12.1.name o12.1.a), ()), ((Ev.Val.mk o13.1.kind o13.1.n o13.1.s o13.1.l), ()), o14 ++ ([(Ev.Val.mk y16.kind y16.n y16.s y16.l)] : List Ev.Val), ()))

theorem R_q23z_s1 {ρ : Type} (self_q23z : Ev.Envr × Ev.Term × Unit → Option (Ev.Val × Unit)) (n : Nat) (kx : (Ev.Envr × Unit) × (Ev.Term × Unit) × (Ev.Val × Unit) × (List Ev.Val) × Unit → Option ρ) (kr : Unit → Option ρ) (l : List Ev.Term) (fuel : Nat) (o11 : Ev.Envr × Unit) (o12 : Ev.Term × Unit) (o13 : Ev.Val × Unit) (o14 : List Ev.Val) (hl : l.length ≤ 9223372036854775807) (hf : l.length < fuel) :
    iterN (fun rc => q23z_s1 self_q23z n rc kx kr) fuel (l, (l.length : Int), 0, o11, o12, o13, o14, ()) = foldK (F_q23z_s1 self_q23z n kr) (fun (o11, o12, o13, o14, _) => kx (((Ev.Envr.mk (Ev.Graph.mk o11.1.g.nodes o11.1.g.edges o11.1.g.next) o11.1.at_), ()), ((Ev.Term.mk o12.1.kind (Ev.Val.mk o12.1.v.kind o12.1.v.n o12.1.v.s o12.1.v.l) o12.1.name o12.1.a), ()), ((Ev.Val.mk o13.1.kind o13.1.n o13.1.s o13.1.l), ()), o14, ())) 0 l (o11, o12, o13, o14, ()) :=
  range_listM l (fun i (o11, o12, o13, o14, _) => (l, (l.length : Int), i, o11, o12, o13, o14, ())) _ _ _ (fun rec i s => rfl) hl fuel (o11, o12, o13, o14, ()) hf

noncomputable def q23z_b (self_q23z : Ev.Envr × Ev.Term × Unit → Option (Ev.Val × Unit)) (n : Nat) : Ev.Envr × Ev.Term × Unit → Option (Ev.Val × Unit) :=
  fun (a1, a2, _) =>
  (bif (a2.kind : Int) == 1 then
  (q50z n ((Ev.Val.mk a2.v.kind a2.v.n a2.v.s a2.v.l), ())).bind fun (y3, _) => some ((Ev.Val.mk y3.kind y3.n y3.s y3.l), ())
  else
  (bif (a2.kind : Int) == 2 then some ((Ev.Val.mk 2 (mpGet .str .i64 0 a1.at_ a2.name) (⟨#[]⟩ : ByteArray) ([] : List Ev.Val)), ())
  else
  (bif (a2.kind : Int) == 3 then
  (ix a2.a 0).bind fun x6 =>
  (q24z n ((Ev.Envr.mk (Ev.Graph.mk a1.g.nodes a1.g.edges a1.g.next) a1.at_), (mpGet .str .i64 0 a1.at_ x6.name), a2.name, ())).bind fun (y7, _) => some ((Ev.Val.mk y7.kind y7.n y7.s y7.l), ())
  else
  iterN (fun rc22 => q23z_s1 self_q23z n rc22 (fun (o17, o18, o19, o20, _) =>
  (q28z n ((Ev.Envr.mk (Ev.Graph.mk o17.1.g.nodes o17.1.g.edges o17.1.g.next) o17.1.at_), (Ev.Term.mk o18.1.kind (Ev.Val.mk o18.1.v.kind o18.1.v.n o18.1.v.s o18.1.v.l) o18.1.name o18.1.a), o20, ())).bind fun (y21, _) => some ((Ev.Val.mk y21.kind y21.n y21.s y21.l), ())) (fun (_) => none)) (n) (a2.a, (a2.a.length : Int), 0, ((Ev.Envr.mk (Ev.Graph.mk a1.g.nodes a1.g.edges a1.g.next) a1.at_), ()), ((Ev.Term.mk a2.kind (Ev.Val.mk a2.v.kind a2.v.n a2.v.s a2.v.l) a2.name a2.a), ()), ((Ev.Val.mk 0 0 (⟨#[]⟩ : ByteArray) ([] : List Ev.Val)), ()), ([] : List Ev.Val), ()))))

noncomputable def q23z : Nat → Ev.Envr × Ev.Term × Unit → Option (Ev.Val × Unit)
  | 0, _ => none
  | n + 1, x => q23z_b (q23z n) n x

noncomputable def term_Eval_s0 {ρ : Type} (n : Nat) (rec : (List Int) × (List ByteArray) × Int × Int × (Ev.Graph × Unit) × (Ev.Term × Unit) × (Ev.Val × Unit) × (List (ByteArray × Bool)) × (List (ByteArray × Int)) × Unit → Option ρ) (kx : (Ev.Graph × Unit) × (Ev.Term × Unit) × (Ev.Val × Unit) × (List (ByteArray × Bool)) × (List (ByteArray × Int)) × Unit → Option ρ) (kr : Int × (Ev.Val × Unit) × Unit → Option ρ) : (List Int) × (List ByteArray) × Int × Int × (Ev.Graph × Unit) × (Ev.Term × Unit) × (Ev.Val × Unit) × (List (ByteArray × Bool)) × (List (ByteArray × Int)) × Unit → Option ρ :=
  fun (v6, v7, v8, v9, o10, o11, o12, o13, o14, _) =>
  (bif decide ((v9 : Int) < v8) then
  (ix v7 v9).bind fun x15 =>
  (bif (mpHas .str .bool o13 x15) then kr (7, ((Ev.Val.mk 0 0 (⟨#[]⟩ : ByteArray) ([] : List Ev.Val)), ()), ())
  else
  (ix v6 v9).bind fun x18 =>
  (q43z n ((Ev.Graph.mk o10.1.nodes o10.1.edges o10.1.next), x18, ())).bind fun (y19, _) =>
  (ix v6 v9).bind fun x20 =>
  (q22z n ((Ev.Graph.mk o10.1.nodes o10.1.edges o10.1.next), x20, ())).bind fun (y21, _) =>
  (bif (decide ((y19 : Int) < 0)) && (decide ((y21 : Int) < 0)) then kr (5, ((Ev.Val.mk 0 0 (⟨#[]⟩ : ByteArray) ([] : List Ev.Val)), ()), ())
  else
  (ix v6 v9).bind fun x22 =>
  (mpSetAt .str .i64 (mpPut .str .i64 o14 x15 (mpGet .str .i64 0 o14 x15)) ((mpIdx .str .i64 o14 x15 : Nat) : Int) x22).bind fun l23 => rec (v6, v7, v8, IntKind.wrap .i64 (v9 + 1), ((Ev.Graph.mk o10.1.nodes o10.1.edges o10.1.next), ()), ((Ev.Term.mk o11.1.kind (Ev.Val.mk o11.1.v.kind o11.1.v.n o11.1.v.s o11.1.v.l) o11.1.name o11.1.a), ()), ((Ev.Val.mk o12.1.kind o12.1.n o12.1.s o12.1.l), ()), mpPut .str .bool o13 x15 (decide ((y21 : Int) ≥ 0)), l23, ())))
  else kx (((Ev.Graph.mk o10.1.nodes o10.1.edges o10.1.next), ()), ((Ev.Term.mk o11.1.kind (Ev.Val.mk o11.1.v.kind o11.1.v.n o11.1.v.s o11.1.v.l) o11.1.name o11.1.a), ()), ((Ev.Val.mk o12.1.kind o12.1.n o12.1.s o12.1.l), ()), o13, o14, ()))

noncomputable def F_term_Eval_s0 {ρ : Type} (n : Nat) (kr : Int × (Ev.Val × Unit) × Unit → Option ρ) : Int → ByteArray → ((List Int) × (Ev.Graph × Unit) × (Ev.Term × Unit) × (Ev.Val × Unit) × (List (ByteArray × Bool)) × (List (ByteArray × Int)) × Unit) → (((List Int) × (Ev.Graph × Unit) × (Ev.Term × Unit) × (Ev.Val × Unit) × (List (ByteArray × Bool)) × (List (ByteArray × Int)) × Unit) → Option ρ) → Option ρ :=
  fun v9 x15 (v6, o10, o11, o12, o13, o14, _) rec =>
  (bif (mpHas .str .bool o13 x15) then kr (7, ((Ev.Val.mk 0 0 (⟨#[]⟩ : ByteArray) ([] : List Ev.Val)), ()), ())
  else
  (ix v6 v9).bind fun x18 =>
  (q43z n ((Ev.Graph.mk o10.1.nodes o10.1.edges o10.1.next), x18, ())).bind fun (y19, _) =>
  (ix v6 v9).bind fun x20 =>
  (q22z n ((Ev.Graph.mk o10.1.nodes o10.1.edges o10.1.next), x20, ())).bind fun (y21, _) =>
  (bif (decide ((y19 : Int) < 0)) && (decide ((y21 : Int) < 0)) then kr (5, ((Ev.Val.mk 0 0 (⟨#[]⟩ : ByteArray) ([] : List Ev.Val)), ()), ())
  else
  (ix v6 v9).bind fun x22 =>
  (mpSetAt .str .i64 (mpPut .str .i64 o14 x15 (mpGet .str .i64 0 o14 x15)) ((mpIdx .str .i64 o14 x15 : Nat) : Int) x22).bind fun l23 => rec (v6, ((Ev.Graph.mk o10.1.nodes o10.1.edges o10.1.next), ()), ((Ev.Term.mk o11.1.kind (Ev.Val.mk o11.1.v.kind o11.1.v.n o11.1.v.s o11.1.v.l) o11.1.name o11.1.a), ()), ((Ev.Val.mk o12.1.kind o12.1.n o12.1.s o12.1.l), ()), mpPut .str .bool o13 x15 (decide ((y21 : Int) ≥ 0)), l23, ())))

theorem R_term_Eval_s0 {ρ : Type} (n : Nat) (kx : (Ev.Graph × Unit) × (Ev.Term × Unit) × (Ev.Val × Unit) × (List (ByteArray × Bool)) × (List (ByteArray × Int)) × Unit → Option ρ) (kr : Int × (Ev.Val × Unit) × Unit → Option ρ) (l : List ByteArray) (fuel : Nat) (v6 : List Int) (o10 : Ev.Graph × Unit) (o11 : Ev.Term × Unit) (o12 : Ev.Val × Unit) (o13 : List (ByteArray × Bool)) (o14 : List (ByteArray × Int)) (hl : l.length ≤ 9223372036854775807) (hf : l.length < fuel) :
    iterN (fun rc => term_Eval_s0 n rc kx kr) fuel (v6, l, (l.length : Int), 0, o10, o11, o12, o13, o14, ()) = foldK (F_term_Eval_s0 n kr) (fun (v6, o10, o11, o12, o13, o14, _) => kx (((Ev.Graph.mk o10.1.nodes o10.1.edges o10.1.next), ()), ((Ev.Term.mk o11.1.kind (Ev.Val.mk o11.1.v.kind o11.1.v.n o11.1.v.s o11.1.v.l) o11.1.name o11.1.a), ()), ((Ev.Val.mk o12.1.kind o12.1.n o12.1.s o12.1.l), ()), o13, o14, ())) 0 l (v6, o10, o11, o12, o13, o14, ()) :=
  range_listM l (fun i (v6, o10, o11, o12, o13, o14, _) => (v6, l, (l.length : Int), i, o10, o11, o12, o13, o14, ())) _ _ _ (fun rec i s => rfl) hl fuel (v6, o10, o11, o12, o13, o14, ()) hf

noncomputable def term_Eval (n : Nat) : Ev.Graph × (List ByteArray) × (List Int) × Ev.Term × Unit → Option (Ev.Val × Int × Unit) :=
  fun (a1, a2, a3, a4, _) =>
  (q33z n ((Ev.Graph.mk a1.nodes a1.edges a1.next), ())).bind fun (y5, _) =>
  (bif (y5 : Int) != 0 then some ((Ev.Val.mk 0 0 (⟨#[]⟩ : ByteArray) ([] : List Ev.Val)), y5, ())
  else
  (bif (((a2.length : Int) : Int) != (a3.length : Int)) || (decide (((a2.length : Int) : Int) > 30)) then some ((Ev.Val.mk 0 0 (⟨#[]⟩ : ByteArray) ([] : List Ev.Val)), 2, ())
  else
  iterN (fun rc33 => term_Eval_s0 n rc33 (fun (o24, o25, o26, o27, o28, _) =>
  (q45z n ((Ev.Term.mk o25.1.kind (Ev.Val.mk o25.1.v.kind o25.1.v.n o25.1.v.s o25.1.v.l) o25.1.name o25.1.a), o27, ())).bind fun (y31, _) =>
  (bif (y31 : Int) != 0 then some ((Ev.Val.mk 0 0 (⟨#[]⟩ : ByteArray) ([] : List Ev.Val)), y31, ())
  else
  (q23z n ((Ev.Envr.mk (Ev.Graph.mk o24.1.nodes o24.1.edges o24.1.next) o28), (Ev.Term.mk o25.1.kind (Ev.Val.mk o25.1.v.kind o25.1.v.n o25.1.v.s o25.1.v.l) o25.1.name o25.1.a), ())).bind fun (y32, _) => some ((Ev.Val.mk y32.kind y32.n y32.s y32.l), 0, ()))) (fun (v29, o30, _) => some ((Ev.Val.mk o30.1.kind o30.1.n o30.1.s o30.1.l), v29, ()))) (n) (a3, a2, (a2.length : Int), 0, ((Ev.Graph.mk a1.nodes a1.edges a1.next), ()), ((Ev.Term.mk a4.kind (Ev.Val.mk a4.v.kind a4.v.n a4.v.s a4.v.l) a4.name a4.a), ()), ((Ev.Val.mk 0 0 (⟨#[]⟩ : ByteArray) ([] : List Ev.Val)), ()), ([] : List (ByteArray × Bool)), ([] : List (ByteArray × Int)), ())))

noncomputable def q26z : (List Int) × (List Int) × Unit → Option (Int × Unit) :=
  fun (a1, a2, _) =>
  (cmpN (a1, a2, ())).bind fun (y3, _) => some (y3, ())

noncomputable def q9z_s1 {ρ : Type} (self_q9z : Ev.Val × Ev.Val × Unit → Option (Int × Unit)) (n : Nat) (rec : Int × (Ev.Val × Unit) × (Ev.Val × Unit) × Unit → Option ρ) (kx : (Ev.Val × Unit) × (Ev.Val × Unit) × Unit → Option ρ) (kr : Int × Unit → Option ρ) : Int × (Ev.Val × Unit) × (Ev.Val × Unit) × Unit → Option ρ :=
  fun (v4, o5, o6, _) =>
  (bif (decide ((v4 : Int) < (o5.1.l.length : Int))) && (decide ((v4 : Int) < (o6.1.l.length : Int))) then
  (ix o5.1.l v4).bind fun x9 =>
  (ix o6.1.l v4).bind fun x10 =>
  (self_q9z ((Ev.Val.mk x9.kind x9.n x9.s x9.l), (Ev.Val.mk x10.kind x10.n x10.s x10.l), ())).bind fun (y11, _) =>
  (bif (y11 : Int) != 0 then kr (y11, ())
  else rec (IntKind.wrap .i64 (v4 + 1), ((Ev.Val.mk o5.1.kind o5.1.n o5.1.s o5.1.l), ()), ((Ev.Val.mk o6.1.kind o6.1.n o6.1.s o6.1.l), ()), ()))
  else kx (((Ev.Val.mk o5.1.kind o5.1.n o5.1.s o5.1.l), ()), ((Ev.Val.mk o6.1.kind o6.1.n o6.1.s o6.1.l), ()), ()))

noncomputable def q9z_b (self_q9z : Ev.Val × Ev.Val × Unit → Option (Int × Unit)) (n : Nat) : Ev.Val × Ev.Val × Unit → Option (Int × Unit) :=
  fun (a1, a2, _) =>
  (bif decide ((a1.kind : Int) < a2.kind) then some ((-1), ())
  else
  (bif decide ((a1.kind : Int) > a2.kind) then some (1, ())
  else
  (bif decide ((a1.n : Int) < a2.n) then some ((-1), ())
  else
  (bif decide ((a1.n : Int) > a2.n) then some (1, ())
  else
  (bif !(seq a1.s a2.s) then
  (q26z (bytesI a1.s, bytesI a2.s, ())).bind fun (y3, _) => some (y3, ())
  else
  iterN (fun rc15 => q9z_s1 self_q9z n rc15 (fun (o12, o13, _) =>
  (bif decide (((o12.1.l.length : Int) : Int) < (o13.1.l.length : Int)) then some ((-1), ())
  else
  (bif decide (((o12.1.l.length : Int) : Int) > (o13.1.l.length : Int)) then some (1, ())
  else some (0, ())))) (fun (v14, _) => some (v14, ()))) (n) (0, ((Ev.Val.mk a1.kind a1.n a1.s a1.l), ()), ((Ev.Val.mk a2.kind a2.n a2.s a2.l), ()), ()))))))

noncomputable def q9z : Nat → Ev.Val × Ev.Val × Unit → Option (Int × Unit)
  | 0, _ => none
  | n + 1, x => q9z_b (q9z n) n x

noncomputable def q8z (n : Nat) : Ev.Val × Ev.Val × Unit → Option (Bool × Unit) :=
  fun (a1, a2, _) =>
  (q9z n ((Ev.Val.mk a1.kind a1.n a1.s a1.l), (Ev.Val.mk a2.kind a2.n a2.s a2.l), ())).bind fun (y3, _) => some ((y3 : Int) == 0, ())

noncomputable def q11z (n : Nat) : Unit → Option (Bool × Unit) :=
  fun (_) =>
  (q15z (1, ())).bind fun (y1, _) =>
  (q14z (())).bind fun (y2, _) =>
  (term_Eval n ((Ev.Graph.mk y2.nodes y2.edges y2.next), ([(⟨#[97]⟩ : ByteArray)] : List ByteArray), ([1] : List Int), (Ev.Term.mk 3 (Ev.Val.mk 0 0 (⟨#[]⟩ : ByteArray) ([] : List Ev.Val)) (⟨#[110]⟩ : ByteArray) ([(Ev.Term.mk 2 (Ev.Val.mk 0 0 (⟨#[]⟩ : ByteArray) ([] : List Ev.Val)) (⟨#[97]⟩ : ByteArray) ([] : List Ev.Term))] : List Ev.Term)), ())).bind fun (y3, y4, _) =>
  (q14z (())).bind fun (y6, _) =>
  (term_Eval n ((Ev.Graph.mk y6.nodes y6.edges y6.next), ([] : List ByteArray), ([] : List Int), (Ev.Term.mk 4 (Ev.Val.mk 0 0 (⟨#[]⟩ : ByteArray) ([] : List Ev.Val)) (⟨#[111, 114]⟩ : ByteArray) ([(Ev.Term.mk 1 (Ev.Val.mk 0 0 (⟨#[]⟩ : ByteArray) ([] : List Ev.Val)) (⟨#[]⟩ : ByteArray) ([] : List Ev.Term)), (Ev.Term.mk 1 (Ev.Val.mk y1.kind y1.n y1.s y1.l) (⟨#[]⟩ : ByteArray) ([] : List Ev.Term))] : List Ev.Term)), ())).bind fun (y7, y8, _) =>
  (bif ((y4 : Int) == 0) && ((y8 : Int) == 0) then
  (q20z (5, ())).bind fun (y9, _) =>
  (q8z n ((Ev.Val.mk y3.kind y3.n y3.s y3.l), (Ev.Val.mk y9.kind y9.n y9.s y9.l), ())).bind fun (y10, _) =>
  (bif y10 then
  (q15z (1, ())).bind fun (y11, _) =>
  (q8z n ((Ev.Val.mk y7.kind y7.n y7.s y7.l), (Ev.Val.mk y11.kind y11.n y11.s y11.l), ())).bind fun (y12, _) =>
  (bif y12 then
  (q29z n ((⟨#[109, 97, 116, 99, 104]⟩ : ByteArray), ())).bind fun (y13, _) =>
  (bif y13 then
  (term_Name n ((⟨#[109, 97, 116, 99, 104]⟩ : ByteArray), ())).bind fun (y14, _) => some (!y14, ())
  else some (false, ()))
  else some (false, ()))
  else some (false, ()))
  else some (false, ()))

noncomputable def q6z : ByteArray × Unit → Option (Bool × Unit) :=
  fun (a1, _) =>
  (bif !(seq a1 (⟨#[]⟩ : ByteArray)) then
  (containsN (a1, (⟨#[32]⟩ : ByteArray), ())).bind fun (y2, _) =>
  (bif !y2 then
  (cat? (⟨#[32]⟩ : ByteArray) a1).bind fun s3 =>
  (cat? s3 (⟨#[32]⟩ : ByteArray)).bind fun s4 =>
  (containsN ((⟨#[32, 109, 97, 116, 99, 104, 32, 119, 104, 101, 114, 101, 32, 114, 101, 116, 117, 114, 110, 32, 100, 105, 115, 116, 105, 110, 99, 116, 32, 97, 115, 32, 97, 110, 100, 32, 111, 114, 32, 110, 111, 116, 32, 105, 110, 32, 105, 115, 32, 110, 117, 108, 108, 32, 116, 114, 117, 101, 32, 102, 97, 108, 115, 101, 32, 99, 111, 117, 110, 116, 32, 115, 117, 109, 32, 109, 105, 110, 32, 109, 97, 120, 32, 115, 105, 122, 101, 32, 104, 101, 97, 100, 32, 99, 111, 97, 108, 101, 115, 99, 101, 32, 105, 100, 32, 116, 121, 112, 101, 32]⟩ : ByteArray), s4, ())).bind fun (y5, _) => some (y5, ())
  else some (false, ()))
  else some (false, ()))

noncomputable def q13z : ByteArray × Unit → Option (Bool × Unit) :=
  fun (a1, _) =>
  (bif (seq a1 (⟨#[]⟩ : ByteArray)) || (decide (((a1.size : Int) : Int) > 12)) then some (false, ())
  else
  (sat a1 0).bind fun c2 =>
  (bif decide ((c2 : Int) ≥ 48) then
  (sat a1 0).bind fun c3 =>
  (bif decide ((c3 : Int) ≤ 57) then some (false, ())
  else
  (trimN (a1, (⟨#[97, 98, 99, 100, 101, 102, 103, 104, 105, 106, 107, 108, 109, 110, 111, 112, 113, 114, 115, 116, 117, 118, 119, 120, 121, 122, 65, 66, 67, 68, 69, 70, 71, 72, 73, 74, 75, 76, 77, 78, 79, 80, 81, 82, 83, 84, 85, 86, 87, 88, 89, 90, 48, 49, 50, 51, 52, 53, 54, 55, 56, 57, 95]⟩ : ByteArray), ())).bind fun (y4, _) => some (seq y4 (⟨#[]⟩ : ByteArray), ()))
  else
  (trimN (a1, (⟨#[97, 98, 99, 100, 101, 102, 103, 104, 105, 106, 107, 108, 109, 110, 111, 112, 113, 114, 115, 116, 117, 118, 119, 120, 121, 122, 65, 66, 67, 68, 69, 70, 71, 72, 73, 74, 75, 76, 77, 78, 79, 80, 81, 82, 83, 84, 85, 86, 87, 88, 89, 90, 48, 49, 50, 51, 52, 53, 54, 55, 56, 57, 95]⟩ : ByteArray), ())).bind fun (y5, _) => some (seq y5 (⟨#[]⟩ : ByteArray), ())))

noncomputable def q12z : ByteArray × Unit → Option (Bool × Unit) :=
  fun (a1, _) =>
  (q13z (a1, ())).bind fun (y2, _) =>
  (bif y2 then
  (q6z (a1, ())).bind fun (y3, _) => some (!y3, ())
  else some (false, ()))

noncomputable def q4z_s0 {ρ : Type} (n : Nat) (rec : (List ByteArray) × (List ByteArray) × Int × Int × Unit → Option ρ) (kx : Unit → Option ρ) (kr : Bool × Unit → Option ρ) : (List ByteArray) × (List ByteArray) × Int × Int × Unit → Option ρ :=
  fun (v3, v4, v5, v6, _) =>
  (bif decide ((v6 : Int) < v5) then
  (ix v3 v6).bind fun x9 =>
  (ix v4 v6).bind fun x10 =>
  (bif !(seq x9 x10) then kr (false, ())
  else rec (v3, v4, v5, IntKind.wrap .i64 (v6 + 1), ()))
  else kx (()))

noncomputable def F_q4z_s0 {ρ : Type} (n : Nat) (kr : Bool × Unit → Option ρ) : Int → ByteArray → ((List ByteArray) × Unit) → (((List ByteArray) × Unit) → Option ρ) → Option ρ :=
  fun v6 x9 (v4, _) rec =>
  (ix v4 v6).bind fun x10 =>
  (bif !(seq x9 x10) then kr (false, ())
  else rec (v4, ()))

theorem R_q4z_s0 {ρ : Type} (n : Nat) (kx : Unit → Option ρ) (kr : Bool × Unit → Option ρ) (l : List ByteArray) (fuel : Nat) (v4 : List ByteArray) (hl : l.length ≤ 9223372036854775807) (hf : l.length < fuel) :
    iterN (fun rc => q4z_s0 n rc kx kr) fuel (l, v4, (l.length : Int), 0, ()) = foldK (F_q4z_s0 n kr) (fun (v4, _) => kx (())) 0 l (v4, ()) :=
  range_listM l (fun i (v4, _) => (l, v4, (l.length : Int), i, ())) _ _ _ (fun rec i s => rfl) hl fuel (v4, ()) hf

noncomputable def q4z (n : Nat) : (List ByteArray) × (List ByteArray) × Unit → Option (Bool × Unit) :=
  fun (a1, a2, _) =>
  (bif ((a1.length : Int) : Int) != (a2.length : Int) then some (false, ())
  else
  iterN (fun rc12 => q4z_s0 n rc12 (fun (_) => some (true, ())) (fun (v11, _) => some (v11, ()))) (n) (a1, a2, (a1.length : Int), 0, ()))

noncomputable def q7z (n : Nat) : ByteArray × Ev.Term × Unit → Option (Bool × Unit) :=
  fun (a1, a2, _) =>
  (q11z n (())).bind fun (y3, _) =>
  (bif y3 then
  (q29z n (a1, ())).bind fun (y4, _) =>
  (q6z (a1, ())).bind fun (y5, _) =>
  (bif y4 == y5 then
  (term_Name n (a1, ())).bind fun (y6, _) =>
  (q12z (a1, ())).bind fun (y7, _) =>
  (bif y6 == y7 then
  (freeN ((Ev.Term.mk a2.kind (Ev.Val.mk a2.v.kind a2.v.n a2.v.s a2.v.l) a2.name a2.a), ())).bind fun (y8, _) =>
  (freeOfN ((Ev.Term.mk a2.kind (Ev.Val.mk a2.v.kind a2.v.n a2.v.s a2.v.l) a2.name a2.a), ())).bind fun (y9, _) =>
  (q4z n (y8, y9, ())).bind fun (y10, _) => some (y10, ())
  else some (false, ()))
  else some (false, ()))
  else some (false, ()))

end Pure

/- Plain functions that compute what functions of the program compute (written by gen.py). -/
import Derived.Test.YtmpcgmlknbmpbaaDoorEvLib
import Derived.Test.YtmpcgmlknbmpbaaDoorPRange
import Derived.Test.YtmpcgmlknbmpbaaDoorEvIns
import Derived.Test.YtmpcgmlknbmpbaaDoorEvRise2
import Derived.Test.YtmpcgmlknbmpbaaDoorEvRng
import Derived.Test.YtmpcgmlknbmpbaaDoorEvSortL
import Derived.Test.YtmpcgmlknbmpbaaDoorPNext
namespace Pure
open Esp Ev Go
set_option linter.unusedSimpArgs false
set_option linter.unusedVariables false

noncomputable def q36z_s0 {ρ : Type} (n : Nat) (rec : ByteArray × Int × Int × Unit → Option ρ) (kx : Unit → Option ρ) (kr : Bool × Unit → Option ρ) : ByteArray × Int × Int × Unit → Option ρ :=
  fun (v2, v3, v4, _) =>
  (bif decide ((v4 : Int) < v3) then
  (sat v2 v4).bind fun c5 =>
  (bif (!((((decide ((c5 : Int) ≥ 97)) && (decide ((c5 : Int) ≤ 122))) || ((decide ((c5 : Int) ≥ 65)) && (decide ((c5 : Int) ≤ 90)))) || ((c5 : Int) == 95))) && ((((v4 : Int) == 0) || (decide ((c5 : Int) < 48))) || (decide ((c5 : Int) > 57))) then kr (false, ())
  else rec (v2, v3, IntKind.wrap .i64 (v4 + 1), ()))
  else kx (()))

noncomputable def F_q36z_s0 {ρ : Type} (n : Nat) (kr : Bool × Unit → Option ρ) : Int → Int → Unit → (Unit → Option ρ) → Option ρ :=
  fun v4 c5 (_) rec =>
  (bif (!((((decide ((c5 : Int) ≥ 97)) && (decide ((c5 : Int) ≤ 122))) || ((decide ((c5 : Int) ≥ 65)) && (decide ((c5 : Int) ≤ 90)))) || ((c5 : Int) == 95))) && ((((v4 : Int) == 0) || (decide ((c5 : Int) < 48))) || (decide ((c5 : Int) > 57))) then kr (false, ())
  else rec (()))

theorem R_q36z_s0 {ρ : Type} (n : Nat) (kx : Unit → Option ρ) (kr : Bool × Unit → Option ρ) (l : ByteArray) (fuel : Nat) (hl : l.size ≤ 4611686018427387904) (hf : l.size < fuel) :
    iterN (fun rc => q36z_s0 n rc kx kr) fuel (l, (l.size : Int), 0, ()) = foldK (F_q36z_s0 n kr) (fun (_) => kx (())) 0 (bi l.data.toList) (()) :=
  range_str l (fun i (_) => (l, (l.size : Int), i, ())) _ _ _ (fun rec i s => rfl) hl fuel (()) hf

noncomputable def q36z (n : Nat) : ByteArray × Unit → Option (Bool × Unit) :=
  fun (a1, _) =>
  (bif (seq a1 (⟨#[]⟩ : ByteArray)) || (decide (((a1.size : Int) : Int) > 12)) then some (false, ())
  else
  iterN (fun rc7 => q36z_s0 n rc7 (fun (_) => some (true, ())) (fun (v6, _) => some (v6, ()))) (n) (a1, (a1.size : Int), 0, ()))

noncomputable def q25z_s0 {ρ : Type} (n : Nat) (rec : (List ByteArray) × (List ByteArray) × Int × Int × Unit → Option ρ) (kx : Unit → Option ρ) (kr : Int × Unit → Option ρ) : (List ByteArray) × (List ByteArray) × Int × Int × Unit → Option ρ :=
  fun (v2, v3, v4, v5, _) =>
  (bif decide ((v5 : Int) < v4) then
  (ix v3 v5).bind fun x6 =>
  (q36z n (x6, ())).bind fun (y7, _) =>
  (bif !y7 then kr (6, ())
  else
  (bif decide ((v5 : Int) > 0) then
  (ix v2 (IntKind.wrap .i64 (v5 - 1))).bind fun x8 =>
  (bif !(sless x8 x6) then kr (6, ())
  else rec (v2, v3, v4, IntKind.wrap .i64 (v5 + 1), ()))
  else rec (v2, v3, v4, IntKind.wrap .i64 (v5 + 1), ())))
  else kx (()))

noncomputable def F_q25z_s0 {ρ : Type} (n : Nat) (kr : Int × Unit → Option ρ) : Int → ByteArray → ((List ByteArray) × Unit) → (((List ByteArray) × Unit) → Option ρ) → Option ρ :=
  fun v5 x6 (v2, _) rec =>
  (q36z n (x6, ())).bind fun (y7, _) =>
  (bif !y7 then kr (6, ())
  else
  (bif decide ((v5 : Int) > 0) then
  (ix v2 (IntKind.wrap .i64 (v5 - 1))).bind fun x8 =>
  (bif !(sless x8 x6) then kr (6, ())
  else rec (v2, ()))
  else rec (v2, ())))

theorem R_q25z_s0 {ρ : Type} (n : Nat) (kx : Unit → Option ρ) (kr : Int × Unit → Option ρ) (l : List ByteArray) (fuel : Nat) (v2 : List ByteArray) (hl : l.length ≤ 9223372036854775807) (hf : l.length < fuel) :
    iterN (fun rc => q25z_s0 n rc kx kr) fuel (v2, l, (l.length : Int), 0, ()) = foldK (F_q25z_s0 n kr) (fun (v2, _) => kx (())) 0 l (v2, ()) :=
  range_listM l (fun i (v2, _) => (v2, l, (l.length : Int), i, ())) _ _ _ (fun rec i s => rfl) hl fuel (v2, ()) hf

noncomputable def q25z (n : Nat) : (List ByteArray) × Unit → Option (Int × Unit) :=
  fun (a1, _) =>
  (bif decide (((a1.length : Int) : Int) > 4) then some (2, ())
  else
  iterN (fun rc10 => q25z_s0 n rc10 (fun (_) => some (0, ())) (fun (v9, _) => some (v9, ()))) (n) (a1, a1, (a1.length : Int), 0, ()))

noncomputable def q34z_s1 {ρ : Type} (self_q34z : Ev.Val × Int × Unit → Option (Int × Unit)) (n : Nat) (rec : Int × (List Ev.Val) × Int × Int × (Ev.Val × Unit) × Unit → Option ρ) (kx : (Ev.Val × Unit) × Unit → Option ρ) (kr : Int × Unit → Option ρ) : Int × (List Ev.Val) × Int × Int × (Ev.Val × Unit) × Unit → Option ρ :=
  fun (v4, v5, v6, v7, o8, _) =>
  (bif decide ((v7 : Int) < v6) then
  (ix v5 v7).bind fun x9 =>
  (self_q34z ((Ev.Val.mk x9.kind x9.n x9.s x9.l), IntKind.wrap .i64 (v4 + 1), ())).bind fun (y10, _) =>
  (bif (y10 : Int) != 0 then kr (y10, ())
  else rec (v4, v5, v6, IntKind.wrap .i64 (v7 + 1), ((Ev.Val.mk o8.1.kind o8.1.n o8.1.s o8.1.l), ()), ()))
  else kx (((Ev.Val.mk o8.1.kind o8.1.n o8.1.s o8.1.l), ()), ()))

noncomputable def F_q34z_s1 {ρ : Type} (self_q34z : Ev.Val × Int × Unit → Option (Int × Unit)) (n : Nat) (kr : Int × Unit → Option ρ) : Int → Ev.Val → (Int × (Ev.Val × Unit) × Unit) → ((Int × (Ev.Val × Unit) × Unit) → Option ρ) → Option ρ :=
  fun v7 x9 (v4, o8, _) rec =>
  (self_q34z ((Ev.Val.mk x9.kind x9.n x9.s x9.l), IntKind.wrap .i64 (v4 + 1), ())).bind fun (y10, _) =>
  (bif (y10 : Int) != 0 then kr (y10, ())
  else rec (v4, ((Ev.Val.mk o8.1.kind o8.1.n o8.1.s o8.1.l), ()), ()))

theorem R_q34z_s1 {ρ : Type} (self_q34z : Ev.Val × Int × Unit → Option (Int × Unit)) (n : Nat) (kx : (Ev.Val × Unit) × Unit → Option ρ) (kr : Int × Unit → Option ρ) (l : List Ev.Val) (fuel : Nat) (v4 : Int) (o8 : Ev.Val × Unit) (hl : l.length ≤ 9223372036854775807) (hf : l.length < fuel) :
    iterN (fun rc => q34z_s1 self_q34z n rc kx kr) fuel (v4, l, (l.length : Int), 0, o8, ()) = foldK (F_q34z_s1 self_q34z n kr) (fun (v4, o8, _) => kx (((Ev.Val.mk o8.1.kind o8.1.n o8.1.s o8.1.l), ()), ())) 0 l (v4, o8, ()) :=
  range_listM l (fun i (v4, o8, _) => (v4, l, (l.length : Int), i, o8, ())) _ _ _ (fun rec i s => rfl) hl fuel (v4, o8, ()) hf

noncomputable def q34z_b (self_q34z : Ev.Val × Int × Unit → Option (Int × Unit)) (n : Nat) : Ev.Val × Int × Unit → Option (Int × Unit) :=
  fun (a1, a2, _) =>
  (bif (a1.kind : Int) == 0 then
  (bif !((((a1.n : Int) == 0) && (seq a1.s (⟨#[]⟩ : ByteArray))) && (((a1.l.length : Int) : Int) == 0)) then some (6, ())
  else some (0, ()))
  else
  (bif (a1.kind : Int) == 1 then
  (bif !(((((a1.n : Int) == 0) || ((a1.n : Int) == 1)) && (seq a1.s (⟨#[]⟩ : ByteArray))) && (((a1.l.length : Int) : Int) == 0)) then some (6, ())
  else some (0, ()))
  else
  (bif (a1.kind : Int) == 2 then
  (bif !((seq a1.s (⟨#[]⟩ : ByteArray)) && (((a1.l.length : Int) : Int) == 0)) then some (6, ())
  else some (0, ()))
  else
  (bif (a1.kind : Int) == 3 then
  (bif decide (((a1.s.size : Int) : Int) > 4000) then some (2, ())
  else
  (bif (a1.n : Int) == 0 then
  (validN (a1.s, ())).bind fun (y3, _) =>
  (bif !(y3 && (((a1.l.length : Int) : Int) == 0)) then some (6, ())
  else some (0, ()))
  else some (6, ())))
  else
  (bif (a1.kind : Int) == 4 then
  (bif (decide (((a1.l.length : Int) : Int) > 30)) || (decide ((a2 : Int) > 6)) then some (2, ())
  else
  iterN (fun rc13 => q34z_s1 self_q34z n rc13 (fun (o11, _) =>
  (bif !(((o11.1.n : Int) == 0) && (seq o11.1.s (⟨#[]⟩ : ByteArray))) then some (6, ())
  else some (0, ()))) (fun (v12, _) => some (v12, ()))) (n) (a2, a1.l, (a1.l.length : Int), 0, ((Ev.Val.mk a1.kind a1.n a1.s a1.l), ()), ()))
  else some (6, ()))))))

noncomputable def q34z : Nat → Ev.Val × Int × Unit → Option (Int × Unit)
  | 0, _ => none
  | n + 1, x => q34z_b (q34z n) n x

noncomputable def q33z (n : Nat) : Ev.Val × Unit → Option (Int × Unit) :=
  fun (a1, _) =>
  (q34z n ((Ev.Val.mk a1.kind a1.n a1.s a1.l), 1, ())).bind fun (y2, _) => some (y2, ())

noncomputable def q29z_s0 {ρ : Type} (n : Nat) (rec : (List Ev.Prp) × (List Ev.Prp) × Int × Int × Unit → Option ρ) (kx : Unit → Option ρ) (kr : Int × Unit → Option ρ) : (List Ev.Prp) × (List Ev.Prp) × Int × Int × Unit → Option ρ :=
  fun (v2, v3, v4, v5, _) =>
  (bif decide ((v5 : Int) < v4) then
  (ix v3 v5).bind fun x6 =>
  (q36z n (x6.name, ())).bind fun (y8, _) =>
  (bif !y8 then kr (6, ())
  else
  (bif decide ((v5 : Int) > 0) then
  (ix v2 (IntKind.wrap .i64 (v5 - 1))).bind fun x9 =>
  (bif (!(sless x9.name x6.name)) || ((x6.val.kind : Int) == 0) then kr (6, ())
  else
  (q33z n ((Ev.Val.mk x6.val.kind x6.val.n x6.val.s x6.val.l), ())).bind fun (y10, _) =>
  (bif (y10 : Int) != 0 then kr (y10, ())
  else rec (v2, v3, v4, IntKind.wrap .i64 (v5 + 1), ())))
  else
  (bif (x6.val.kind : Int) == 0 then kr (6, ())
  else
  (q33z n ((Ev.Val.mk x6.val.kind x6.val.n x6.val.s x6.val.l), ())).bind fun (y11, _) =>
  (bif (y11 : Int) != 0 then kr (y11, ())
  else rec (v2, v3, v4, IntKind.wrap .i64 (v5 + 1), ())))))
  else kx (()))

noncomputable def F_q29z_s0 {ρ : Type} (n : Nat) (kr : Int × Unit → Option ρ) : Int → Ev.Prp → ((List Ev.Prp) × Unit) → (((List Ev.Prp) × Unit) → Option ρ) → Option ρ :=
  fun v5 x6 (v2, _) rec =>
  (q36z n (x6.name, ())).bind fun (y8, _) =>
  (bif !y8 then kr (6, ())
  else
  (bif decide ((v5 : Int) > 0) then
  (ix v2 (IntKind.wrap .i64 (v5 - 1))).bind fun x9 =>
  (bif (!(sless x9.name x6.name)) || ((x6.val.kind : Int) == 0) then kr (6, ())
  else
  (q33z n ((Ev.Val.mk x6.val.kind x6.val.n x6.val.s x6.val.l), ())).bind fun (y10, _) =>
  (bif (y10 : Int) != 0 then kr (y10, ())
  else rec (v2, ())))
  else
  (bif (x6.val.kind : Int) == 0 then kr (6, ())
  else
  (q33z n ((Ev.Val.mk x6.val.kind x6.val.n x6.val.s x6.val.l), ())).bind fun (y11, _) =>
  (bif (y11 : Int) != 0 then kr (y11, ())
  else rec (v2, ())))))

theorem R_q29z_s0 {ρ : Type} (n : Nat) (kx : Unit → Option ρ) (kr : Int × Unit → Option ρ) (l : List Ev.Prp) (fuel : Nat) (v2 : List Ev.Prp) (hl : l.length ≤ 9223372036854775807) (hf : l.length < fuel) :
    iterN (fun rc => q29z_s0 n rc kx kr) fuel (v2, l, (l.length : Int), 0, ()) = foldK (F_q29z_s0 n kr) (fun (v2, _) => kx (())) 0 l (v2, ()) :=
  range_listM l (fun i (v2, _) => (v2, l, (l.length : Int), i, ())) _ _ _ (fun rec i s => rfl) hl fuel (v2, ()) hf

noncomputable def q29z (n : Nat) : (List Ev.Prp) × Unit → Option (Int × Unit) :=
  fun (a1, _) =>
  (bif decide (((a1.length : Int) : Int) > 6) then some (2, ())
  else
  iterN (fun rc13 => q29z_s0 n rc13 (fun (_) => some (0, ())) (fun (v12, _) => some (v12, ()))) (n) (a1, a1, (a1.length : Int), 0, ()))

noncomputable def q13z_s0 {ρ : Type} (n : Nat) (rec : Int × (List Int) × Int × Int × Unit → Option ρ) (kx : Int × Unit → Option ρ) (kr : Int × Unit → Option ρ) : Int × (List Int) × Int × Int × Unit → Option ρ :=
  fun (v2, v3, v4, v5, _) =>
  (bif decide ((v5 : Int) < v4) then
  (ix v3 v5).bind fun x6 =>
  (bif (x6 : Int) != v2 then kr (x6, ())
  else rec (v2, v3, v4, IntKind.wrap .i64 (v5 + 1), ()))
  else kx (v2, ()))

noncomputable def F_q13z_s0 {ρ : Type} (n : Nat) (kr : Int × Unit → Option ρ) : Int → Int → (Int × Unit) → ((Int × Unit) → Option ρ) → Option ρ :=
  fun v5 x6 (v2, _) rec =>
  (bif (x6 : Int) != v2 then kr (x6, ())
  else rec (v2, ()))

theorem R_q13z_s0 {ρ : Type} (n : Nat) (kx : Int × Unit → Option ρ) (kr : Int × Unit → Option ρ) (l : List Int) (fuel : Nat) (v2 : Int) (hl : l.length ≤ 9223372036854775807) (hf : l.length < fuel) :
    iterN (fun rc => q13z_s0 n rc kx kr) fuel (v2, l, (l.length : Int), 0, ()) = foldK (F_q13z_s0 n kr) (fun (v2, _) => kx (v2, ())) 0 l (v2, ()) :=
  range_listM l (fun i (v2, _) => (v2, l, (l.length : Int), i, ())) _ _ _ (fun rec i s => rfl) hl fuel (v2, ()) hf

noncomputable def q13z (n : Nat) : (List Int) × Unit → Option (Int × Unit) :=
  fun (a1, _) =>
  iterN (fun rc9 => q13z_s0 n rc9 (fun (v7, _) => some (v7, ())) (fun (v8, _) => some (v8, ()))) (n) (0, a1, (a1.length : Int), 0, ())

noncomputable def q23z : Int × Unit → Option (Bool × Unit) :=
  fun (a1, _) => some ((a1 : Int) != a1, ())

noncomputable def q14z : Int × Int × Unit → Option (Int × Unit) :=
  fun (a1, a2, _) =>
  (q23z (a1, ())).bind fun (y3, _) =>
  (q23z (a2, ())).bind fun (y4, _) =>
  (bif y3 then
  (bif y4 then some (0, ())
  else some ((-1), ()))
  else
  (bif y4 then some (1, ())
  else
  (bif decide ((a1 : Int) < a2) then some ((-1), ())
  else
  (bif decide ((a1 : Int) > a2) then some (1, ())
  else some (0, ())))))

noncomputable def q24z : Ev.Node × Int × Unit → Option (Int × Unit) :=
  fun (a1, a2, _) =>
  (q14z (a1.id, a2, ())).bind fun (y3, _) => some (y3, ())

noncomputable def q1z_s0 {ρ : Type} (n : Nat) (rec : (List Ev.Node) × Int × Int × Int × Int × Unit → Option ρ) (kx : (List Ev.Node) × Int × Int × Int × Unit → Option ρ) (kr : Unit → Option ρ) : (List Ev.Node) × Int × Int × Int × Int × Unit → Option ρ :=
  fun (v3, v4, v5, v6, v7, _) =>
  (bif decide ((v6 : Int) < v7) then
  (ix v3 (IntKind.wrap .i64 (bshr .u64 (IntKind.wrap .u64 (IntKind.wrap .i64 (v6 + v7))) 1))).bind fun x8 =>
  (q24z ((Ev.Node.mk x8.id x8.labels x8.props), v4, ())).bind fun (y9, _) =>
  (bif decide ((y9 : Int) < 0) then rec (v3, v4, v5, IntKind.wrap .i64 ((IntKind.wrap .i64 (bshr .u64 (IntKind.wrap .u64 (IntKind.wrap .i64 (v6 + v7))) 1)) + 1), v7, ())
  else rec (v3, v4, v5, v6, IntKind.wrap .i64 (bshr .u64 (IntKind.wrap .u64 (IntKind.wrap .i64 (v6 + v7))) 1), ()))
  else kx (v3, v4, v5, v6, ()))

noncomputable def q1z (n : Nat) : (List Ev.Node) × Int × Unit → Option (Int × Bool × Unit) :=
  fun (a1, a2, _) =>
  iterN (fun rc16 => q1z_s0 n rc16 (fun (v10, v11, v12, v13, _) =>
  (bif decide ((v13 : Int) < v12) then
  (ix v10 v13).bind fun x14 =>
  (q24z ((Ev.Node.mk x14.id x14.labels x14.props), v11, ())).bind fun (y15, _) => some (v13, (y15 : Int) == 0, ())
  else some (v13, false, ()))) (fun (_) => none)) (n) (a1, a2, (a1.length : Int), 0, (a1.length : Int), ())

noncomputable def q35z (n : Nat) : Ev.Graph × Int × Unit → Option (Int × Unit) :=
  fun (a1, a2, _) =>
  (q1z n (a1.nodes, a2, ())).bind fun (y3, y4, _) =>
  (bif !y4 then some ((-1), ())
  else some (y3, ()))

noncomputable def q28z_s0 {ρ : Type} (n : Nat) (rec : Int × (List Ev.Node) × Int × Int × (Ev.Graph × Unit) × Unit → Option ρ) (kx : Int × (Ev.Graph × Unit) × Unit → Option ρ) (kr : Int × Unit → Option ρ) : Int × (List Ev.Node) × Int × Int × (Ev.Graph × Unit) × Unit → Option ρ :=
  fun (v2, v3, v4, v5, o6, _) =>
  (bif decide ((v5 : Int) < v4) then
  (ix v3 v5).bind fun x7 =>
  (bif decide ((x7.id : Int) ≤ v2) then kr (6, ())
  else
  (q25z n (x7.labels, ())).bind fun (y8, _) =>
  (q29z n (x7.props, ())).bind fun (y9, _) =>
  (q13z n (([y8, y9] : List Int), ())).bind fun (y10, _) =>
  (bif (y10 : Int) != 0 then kr (y10, ())
  else rec (x7.id, v3, v4, IntKind.wrap .i64 (v5 + 1), ((Ev.Graph.mk o6.1.nodes o6.1.edges o6.1.next), ()), ())))
  else kx (v2, ((Ev.Graph.mk o6.1.nodes o6.1.edges o6.1.next), ()), ()))

noncomputable def q28z_s2 {ρ : Type} (n : Nat) (rec : Int × Int × (List Ev.Edg) × Int × Int × (Ev.Graph × Unit) × Unit → Option ρ) (kx : Int × Int × (Ev.Graph × Unit) × Unit → Option ρ) (kr : Int × Unit → Option ρ) : Int × Int × (List Ev.Edg) × Int × Int × (Ev.Graph × Unit) × Unit → Option ρ :=
  fun (v14, v15, v16, v17, v18, o19, _) =>
  (bif decide ((v18 : Int) < v17) then
  (ix v16 v18).bind fun x20 =>
  (bif decide ((x20.id : Int) ≤ v14) then kr (6, ())
  else
  (q35z n ((Ev.Graph.mk o19.1.nodes o19.1.edges o19.1.next), x20.id, ())).bind fun (y21, _) =>
  (bif decide ((y21 : Int) ≥ 0) then kr (6, ())
  else
  (q36z n (x20.type, ())).bind fun (y22, _) =>
  (bif !y22 then kr (6, ())
  else
  (q35z n ((Ev.Graph.mk o19.1.nodes o19.1.edges o19.1.next), x20.src, ())).bind fun (y23, _) =>
  (bif decide ((y23 : Int) < 0) then kr (5, ())
  else
  (q35z n ((Ev.Graph.mk o19.1.nodes o19.1.edges o19.1.next), x20.dst, ())).bind fun (y24, _) =>
  (bif decide ((y24 : Int) < 0) then kr (5, ())
  else
  (q29z n (x20.props, ())).bind fun (y25, _) =>
  (bif (y25 : Int) != 0 then kr (y25, ())
  else rec (x20.id, v15, v16, v17, IntKind.wrap .i64 (v18 + 1), ((Ev.Graph.mk o19.1.nodes o19.1.edges o19.1.next), ()), ())))))))
  else kx (v14, v15, ((Ev.Graph.mk o19.1.nodes o19.1.edges o19.1.next), ()), ()))

noncomputable def F_q28z_s0 {ρ : Type} (n : Nat) (kr : Int × Unit → Option ρ) : Int → Ev.Node → (Int × (Ev.Graph × Unit) × Unit) → ((Int × (Ev.Graph × Unit) × Unit) → Option ρ) → Option ρ :=
  fun v5 x7 (v2, o6, _) rec =>
  (bif decide ((x7.id : Int) ≤ v2) then kr (6, ())
  else
  (q25z n (x7.labels, ())).bind fun (y8, _) =>
  (q29z n (x7.props, ())).bind fun (y9, _) =>
  (q13z n (([y8, y9] : List Int), ())).bind fun (y10, _) =>
  (bif (y10 : Int) != 0 then kr (y10, ())
  else rec (x7.id, ((Ev.Graph.mk o6.1.nodes o6.1.edges o6.1.next), ()), ())))

theorem R_q28z_s0 {ρ : Type} (n : Nat) (kx : Int × (Ev.Graph × Unit) × Unit → Option ρ) (kr : Int × Unit → Option ρ) (l : List Ev.Node) (fuel : Nat) (v2 : Int) (o6 : Ev.Graph × Unit) (hl : l.length ≤ 9223372036854775807) (hf : l.length < fuel) :
    iterN (fun rc => q28z_s0 n rc kx kr) fuel (v2, l, (l.length : Int), 0, o6, ()) = foldK (F_q28z_s0 n kr) (fun (v2, o6, _) => kx (v2, ((Ev.Graph.mk o6.1.nodes o6.1.edges o6.1.next), ()), ())) 0 l (v2, o6, ()) :=
  range_listM l (fun i (v2, o6, _) => (v2, l, (l.length : Int), i, o6, ())) _ _ _ (fun rec i s => rfl) hl fuel (v2, o6, ()) hf

noncomputable def F_q28z_s2 {ρ : Type} (n : Nat) (kr : Int × Unit → Option ρ) : Int → Ev.Edg → (Int × Int × (Ev.Graph × Unit) × Unit) → ((Int × Int × (Ev.Graph × Unit) × Unit) → Option ρ) → Option ρ :=
  fun v18 x20 (v14, v15, o19, _) rec =>
  (bif decide ((x20.id : Int) ≤ v14) then kr (6, ())
  else
  (q35z n ((Ev.Graph.mk o19.1.nodes o19.1.edges o19.1.next), x20.id, ())).bind fun (y21, _) =>
  (bif decide ((y21 : Int) ≥ 0) then kr (6, ())
  else
  (q36z n (x20.type, ())).bind fun (y22, _) =>
  (bif !y22 then kr (6, ())
  else
  (q35z n ((Ev.Graph.mk o19.1.nodes o19.1.edges o19.1.next), x20.src, ())).bind fun (y23, _) =>
  (bif decide ((y23 : Int) < 0) then kr (5, ())
  else
  (q35z n ((Ev.Graph.mk o19.1.nodes o19.1.edges o19.1.next), x20.dst, ())).bind fun (y24, _) =>
  (bif decide ((y24 : Int) < 0) then kr (5, ())
  else
  (q29z n (x20.props, ())).bind fun (y25, _) =>
  (bif (y25 : Int) != 0 then kr (y25, ())
  else rec (x20.id, v15, ((Ev.Graph.mk o19.1.nodes o19.1.edges o19.1.next), ()), ())))))))

theorem R_q28z_s2 {ρ : Type} (n : Nat) (kx : Int × Int × (Ev.Graph × Unit) × Unit → Option ρ) (kr : Int × Unit → Option ρ) (l : List Ev.Edg) (fuel : Nat) (v14 : Int) (v15 : Int) (o19 : Ev.Graph × Unit) (hl : l.length ≤ 9223372036854775807) (hf : l.length < fuel) :
    iterN (fun rc => q28z_s2 n rc kx kr) fuel (v14, v15, l, (l.length : Int), 0, o19, ()) = foldK (F_q28z_s2 n kr) (fun (v14, v15, o19, _) => kx (v14, v15, ((Ev.Graph.mk o19.1.nodes o19.1.edges o19.1.next), ()), ())) 0 l (v14, v15, o19, ()) :=
  range_listM l (fun i (v14, v15, o19, _) => (v14, v15, l, (l.length : Int), i, o19, ())) _ _ _ (fun rec i s => rfl) hl fuel (v14, v15, o19, ()) hf

noncomputable def q28z (n : Nat) : Ev.Graph × Unit → Option (Int × Unit) :=
  fun (a1, _) =>
  (bif (decide (((a1.nodes.length : Int) : Int) > 40)) || (decide (((a1.edges.length : Int) : Int) > 60)) then some (2, ())
  else
  iterN (fun rc31 => q28z_s0 n rc31 (fun (v11, o12, _) =>
  iterN (fun rc30 => q28z_s2 n rc30 (fun (v26, v27, o28, _) =>
  (bif (decide ((o28.1.next : Int) ≤ (if v26 > v27 then v26 else v27))) || (decide ((o28.1.next : Int) > 1099511627776)) then some (9, ())
  else some (0, ()))) (fun (v29, _) => some (v29, ()))) (n) (0, v11, o12.1.edges, (o12.1.edges.length : Int), 0, ((Ev.Graph.mk o12.1.nodes o12.1.edges o12.1.next), ()), ())) (fun (v13, _) => some (v13, ()))) (n) (0, a1.nodes, (a1.nodes.length : Int), 0, ((Ev.Graph.mk a1.nodes a1.edges a1.next), ()), ()))

noncomputable def q6z : (List Int) × Unit → Option ((List Int) × Unit) :=
  fun (a1, _) =>
  nilq a1 (some (([] : List Int), ())) (
  ck (room (([] : List Int) ++ a1).length 8) (some (([] : List Int) ++ a1, ())))

noncomputable def reach_Set_s2 {ρ : Type} (n : Nat) (rec : (List (Int × (List Int))) × (List Ev.Node) × Int × Int × (Ev.Node × Unit) × (List (Ev.Pair × Bool)) × (List Int) × Unit → Option ρ) (kx : (List (Int × (List Int))) × (List Ev.Node) × Int × Int × (List (Ev.Pair × Bool)) × Unit → Option ρ) (kr : Unit → Option ρ) : (List (Int × (List Int))) × (List Ev.Node) × Int × Int × (Ev.Node × Unit) × (List (Ev.Pair × Bool)) × (List Int) × Unit → Option ρ :=
  fun (v11, v12, v13, v14, o15, o16, o17, _) =>
  (bif decide (((o17.length : Int) : Int) > 0) then
  (ix o17 (IntKind.wrap .i64 ((o17.length : Int) - 1))).bind fun _ =>
  ((o17)[(IntKind.wrap .i64 ((o17.length : Int) - 1) : Int).toNat]?).bind fun e18 =>
  (cut? o17 (IntKind.wrap .i64 ((o17.length : Int) - 1))).bind fun r19 =>
  (bif !(mpGet .pair .bool false o16 (Ev.Pair.mk o15.1.id e18)) then
  ck (room (r19 ++ (mpGet .i64 (.lst .i64) ([] : List Int) v11 e18)).length 8) (rec (v11, v12, v13, v14, ((Ev.Node.mk o15.1.id o15.1.labels o15.1.props), ()), mpPut .pair .bool o16 (Ev.Pair.mk o15.1.id e18) true, r19 ++ (mpGet .i64 (.lst .i64) ([] : List Int) v11 e18), ()))
  else rec (v11, v12, v13, v14, ((Ev.Node.mk o15.1.id o15.1.labels o15.1.props), ()), o16, r19, ()))
  else kx (v11, v12, v13, v14, o16, ()))

noncomputable def reach_Set_s0 {ρ : Type} (n : Nat) (rec : (List (Int × (List Int))) × (List Ev.Node) × Int × Int × (List (Ev.Pair × Bool)) × Unit → Option ρ) (kx : (List (Ev.Pair × Bool)) × Unit → Option ρ) (kr : Unit → Option ρ) : (List (Int × (List Int))) × (List Ev.Node) × Int × Int × (List (Ev.Pair × Bool)) × Unit → Option ρ :=
  fun (v4, v5, v6, v7, o8, _) =>
  (bif decide ((v7 : Int) < v6) then
  (ix v5 v7).bind fun x9 =>
  (q6z ((mpGet .i64 (.lst .i64) ([] : List Int) v4 x9.id), ())).bind fun (o10, _) =>
  iterN (fun rc25 => reach_Set_s2 n rc25 (fun (v20, v21, v22, v23, o24, _) => rec (v20, v21, v22, IntKind.wrap .i64 (v23 + 1), o24, ())) (fun (_) => none)) (n) (v4, v5, v6, v7, ((Ev.Node.mk x9.id x9.labels x9.props), ()), o8, o10, ())
  else kx (o8, ()))

noncomputable def reach_Set (n : Nat) : Ev.Graph × ByteArray × Unit → Option ((List (Ev.Pair × Bool)) × Unit) :=
  fun (a1, a2, _) =>
  (nextN ((Ev.Graph.mk a1.nodes a1.edges a1.next), a2, ())).bind fun (y3, _) =>
  iterN (fun rc27 => reach_Set_s0 n rc27 (fun (o26, _) => some (o26, ())) (fun (_) => none)) (n) (y3, a1.nodes, (a1.nodes.length : Int), 0, ([] : List (Ev.Pair × Bool)), ())

noncomputable def q27z_s0 {ρ : Type} (n : Nat) (rec : (List Ev.Pair) × (List (Ev.Pair × Bool)) × Unit → Option ρ) (kx : (List Ev.Pair) × Unit → Option ρ) (kr : Unit → Option ρ) : (List Ev.Pair) × (List (Ev.Pair × Bool)) × Unit → Option ρ :=
  fun (o2, o3, _) =>
  rngM o3 (kx (o2, ())) (fun en4 re5 =>
  ck (room (o2 ++ ([(Ev.Pair.mk en4.1.p en4.1.q)] : List Ev.Pair)).length 16) (rec (o2 ++ ([(Ev.Pair.mk en4.1.p en4.1.q)] : List Ev.Pair), re5, ())))

noncomputable def q27z (n : Nat) : (List (Ev.Pair × Bool)) × Unit → Option ((List Ev.Pair) × Unit) :=
  fun (a1, _) =>
  iterN (fun rc8 => q27z_s0 n rc8 (fun (o6, _) =>
  (sfPair (o6, ())).bind fun (o7, _) => some (o7, ())) (fun (_) => none)) (n) (([] : List Ev.Pair), a1, ())

noncomputable def q30z_s0 {ρ : Type} (n : Nat) (rec : (List Ev.Pair) × Int × Int × (List Ev.Pair) × Unit → Option ρ) (kx : (List Ev.Pair) × Unit → Option ρ) (kr : Unit → Option ρ) : (List Ev.Pair) × Int × Int × (List Ev.Pair) × Unit → Option ρ :=
  fun (v2, v3, v4, o5, _) =>
  (bif decide ((v4 : Int) < v3) then
  (ix v2 v4).bind fun x6 =>
  ck (room (o5 ++ ([(Ev.Pair.mk x6.p x6.q)] : List Ev.Pair)).length 16) (rec (v2, v3, IntKind.wrap .i64 (v4 + 1), o5 ++ ([(Ev.Pair.mk x6.p x6.q)] : List Ev.Pair), ()))
  else kx (o5, ()))

noncomputable def F_q30z_s0 {ρ : Type} (n : Nat) (kr : Unit → Option ρ) : Int → Ev.Pair → ((List Ev.Pair) × Unit) → (((List Ev.Pair) × Unit) → Option ρ) → Option ρ :=
  fun v4 x6 (o5, _) rec =>
  ck (room (o5 ++ ([(Ev.Pair.mk x6.p x6.q)] : List Ev.Pair)).length 16) (rec (o5 ++ ([(Ev.Pair.mk x6.p x6.q)] : List Ev.Pair), ()))

theorem R_q30z_s0 {ρ : Type} (n : Nat) (kx : (List Ev.Pair) × Unit → Option ρ) (kr : Unit → Option ρ) (l : List Ev.Pair) (fuel : Nat) (o5 : List Ev.Pair) (hl : l.length ≤ 9223372036854775807) (hf : l.length < fuel) :
    iterN (fun rc => q30z_s0 n rc kx kr) fuel (l, (l.length : Int), 0, o5, ()) = foldK (F_q30z_s0 n kr) (fun (o5, _) => kx (o5, ())) 0 l (o5, ()) :=
  range_listM l (fun i (o5, _) => (l, (l.length : Int), i, o5, ())) _ _ _ (fun rec i s => rfl) hl fuel (o5, ()) hf

noncomputable def q30z (n : Nat) : (List Ev.Pair) × Unit → Option ((List Ev.Pair) × Unit) :=
  fun (a1, _) =>
  iterN (fun rc8 => q30z_s0 n rc8 (fun (o7, _) => some (o7, ())) (fun (_) => none)) (n) (a1, (a1.length : Int), 0, ([] : List Ev.Pair), ())

noncomputable def reach_All (n : Nat) : Ev.Graph × ByteArray × Unit → Option ((List Ev.Pair) × Int × Unit) :=
  fun (a1, a2, _) =>
  (q28z n ((Ev.Graph.mk a1.nodes a1.edges a1.next), ())).bind fun (y3, _) =>
  (bif (y3 : Int) != 0 then some (([] : List Ev.Pair), y3, ())
  else
  (reach_Set n ((Ev.Graph.mk a1.nodes a1.edges a1.next), a2, ())).bind fun (y4, _) =>
  (q27z n (y4, ())).bind fun (y5, _) =>
  (q30z n (y5, ())).bind fun (y6, _) => some (y6, 0, ()))

noncomputable def q11z : Unit → Option (Ev.Graph × Unit) :=
  fun (_) => some ((Ev.Graph.mk ([(Ev.Node.mk 1 ([] : List ByteArray) ([] : List Ev.Prp)), (Ev.Node.mk 2 ([] : List ByteArray) ([] : List Ev.Prp)), (Ev.Node.mk 3 ([(⟨#[65]⟩ : ByteArray)] : List ByteArray) ([] : List Ev.Prp))] : List Ev.Node) ([(Ev.Edg.mk 4 1 2 (⟨#[75]⟩ : ByteArray) ([] : List Ev.Prp)), (Ev.Edg.mk 5 2 3 (⟨#[75]⟩ : ByteArray) ([] : List Ev.Prp))] : List Ev.Edg) 6), ())

noncomputable def q37z_s2 {ρ : Type} (n : Nat) (rec : ByteArray × Int × Int × Int × Bool × (List Ev.Edg) × Int × Int × (Ev.Graph × Unit) × (List (Int × Int)) × Unit → Option ρ) (kx : ByteArray × Int × Int × Int × Bool × (Ev.Graph × Unit) × (List (Int × Int)) × Unit → Option ρ) (kr : Unit → Option ρ) : ByteArray × Int × Int × Int × Bool × (List Ev.Edg) × Int × Int × (Ev.Graph × Unit) × (List (Int × Int)) × Unit → Option ρ :=
  fun (v15, v16, v17, v18, v19, v20, v21, v22, o23, o24, _) =>
  (bif decide ((v22 : Int) < v21) then
  (ix v20 v22).bind fun x25 =>
  (bif (!(seq v15 (⟨#[]⟩ : ByteArray))) && (!(seq x25.type v15)) then rec (v15, v16, v17, v18, v19, v20, v21, IntKind.wrap .i64 (v22 + 1), ((Ev.Graph.mk o23.1.nodes o23.1.edges o23.1.next), ()), o24, ())
  else
  (bif (mpHas .i64 .i64 o24 x25.dst) && (((mpGet .i64 .i64 0 o24 x25.dst) : Int) == v18) then
  (bif !(mpHas .i64 .i64 o24 x25.src) then rec (v15, v16, v17, v18, true, v20, v21, IntKind.wrap .i64 (v22 + 1), ((Ev.Graph.mk o23.1.nodes o23.1.edges o23.1.next), ()), mpPut .i64 .i64 o24 x25.src (IntKind.wrap .i64 (v18 + 1)), ())
  else rec (v15, v16, v17, v18, v19, v20, v21, IntKind.wrap .i64 (v22 + 1), ((Ev.Graph.mk o23.1.nodes o23.1.edges o23.1.next), ()), o24, ()))
  else rec (v15, v16, v17, v18, v19, v20, v21, IntKind.wrap .i64 (v22 + 1), ((Ev.Graph.mk o23.1.nodes o23.1.edges o23.1.next), ()), o24, ())))
  else kx (v15, v16, v17, v18, v19, ((Ev.Graph.mk o23.1.nodes o23.1.edges o23.1.next), ()), o24, ()))

noncomputable def q37z_s0 {ρ : Type} (n : Nat) (rec : ByteArray × Int × Int × Int × Bool × (Ev.Graph × Unit) × (List (Int × Int)) × Unit → Option ρ) (kx : ByteArray × Int × Int × (Ev.Graph × Unit) × (List (Int × Int)) × Unit → Option ρ) (kr : Unit → Option ρ) : ByteArray × Int × Int × Int × Bool × (Ev.Graph × Unit) × (List (Int × Int)) × Unit → Option ρ :=
  fun (v8, v9, v10, v11, v12, o13, o14, _) =>
  (bif v12 then
  iterN (fun rc33 => q37z_s2 n rc33 (fun (v26, v27, v28, v29, v30, o31, o32, _) => rec (v26, v27, v28, IntKind.wrap .i64 (v29 + 1), v30, ((Ev.Graph.mk o31.1.nodes o31.1.edges o31.1.next), ()), o32, ())) (fun (_) => none)) (n) (v8, v9, v10, v11, false, o13.1.edges, (o13.1.edges.length : Int), 0, ((Ev.Graph.mk o13.1.nodes o13.1.edges o13.1.next), ()), o14, ())
  else kx (v8, v9, v10, ((Ev.Graph.mk o13.1.nodes o13.1.edges o13.1.next), ()), o14, ()))

noncomputable def q37z_s6 {ρ : Type} (n : Nat) (rec : ByteArray × Int × Int × Int × (List Ev.Edg) × Int × Int × (Ev.Graph × Unit) × (List Int) × (List (Int × Int)) × Unit → Option ρ) (kx : ByteArray × Int × Int × (Ev.Graph × Unit) × (List Int) × (List (Int × Int)) × Unit → Option ρ) (kr : Unit → Option ρ) : ByteArray × Int × Int × Int × (List Ev.Edg) × Int × Int × (Ev.Graph × Unit) × (List Int) × (List (Int × Int)) × Unit → Option ρ :=
  fun (v45, v46, v47, v48, v49, v50, v51, o52, o53, o54, _) =>
  (bif decide ((v51 : Int) < v50) then
  (ix v49 v51).bind fun x55 =>
  (bif (((x55.src : Int) == v47) && (mpHas .i64 .i64 o54 x55.dst)) && ((seq v45 (⟨#[]⟩ : ByteArray)) || (seq x55.type v45)) then
  (bif decide ((v48 : Int) < 0) then rec (v45, v46, v47, v51, v49, v50, IntKind.wrap .i64 (v51 + 1), ((Ev.Graph.mk o52.1.nodes o52.1.edges o52.1.next), ()), o53, o54, ())
  else
  (ix o52.1.edges v48).bind fun x56 =>
  (bif decide (((mpGet .i64 .i64 0 o54 x55.dst) : Int) < (mpGet .i64 .i64 0 o54 x56.dst)) then rec (v45, v46, v47, v51, v49, v50, IntKind.wrap .i64 (v51 + 1), ((Ev.Graph.mk o52.1.nodes o52.1.edges o52.1.next), ()), o53, o54, ())
  else rec (v45, v46, v47, v48, v49, v50, IntKind.wrap .i64 (v51 + 1), ((Ev.Graph.mk o52.1.nodes o52.1.edges o52.1.next), ()), o53, o54, ())))
  else rec (v45, v46, v47, v48, v49, v50, IntKind.wrap .i64 (v51 + 1), ((Ev.Graph.mk o52.1.nodes o52.1.edges o52.1.next), ()), o53, o54, ()))
  else kx (v45, v46, v48, ((Ev.Graph.mk o52.1.nodes o52.1.edges o52.1.next), ()), o53, o54, ()))

noncomputable def q37z_s4 {ρ : Type} (n : Nat) (rec : ByteArray × Int × Int × (Ev.Graph × Unit) × (List Int) × (List (Int × Int)) × Unit → Option ρ) (kx : (List Int) × Unit → Option ρ) (kr : (List Int) × Int × Unit → Option ρ) : ByteArray × Int × Int × (Ev.Graph × Unit) × (List Int) × (List (Int × Int)) × Unit → Option ρ :=
  fun (v39, v40, v41, o42, o43, o44, _) =>
  (bif (((o43.length : Int) : Int) == 0) || ((v41 : Int) != v40) then
  iterN (fun rc65 => q37z_s6 n rc65 (fun (v57, v58, v59, o60, o61, o62, _) =>
  (bif decide ((v59 : Int) < 0) then kr (([] : List Int), 5, ())
  else
  (ix o60.1.edges v59).bind fun x63 =>
  ck (room (o61 ++ ([x63.id] : List Int)).length 8) (
  (ix o60.1.edges v59).bind fun x64 => rec (v57, v58, x64.dst, ((Ev.Graph.mk o60.1.nodes o60.1.edges o60.1.next), ()), o61 ++ ([x63.id] : List Int), o62, ())))) (fun (_) => none)) (n) (v39, v40, v41, (-1), o42.1.edges, (o42.1.edges.length : Int), 0, ((Ev.Graph.mk o42.1.nodes o42.1.edges o42.1.next), ()), o43, o44, ())
  else kx (o43, ()))

noncomputable def F_q37z_s2 {ρ : Type} (n : Nat) (kr : Unit → Option ρ) : Int → Ev.Edg → (ByteArray × Int × Int × Int × Bool × (Ev.Graph × Unit) × (List (Int × Int)) × Unit) → ((ByteArray × Int × Int × Int × Bool × (Ev.Graph × Unit) × (List (Int × Int)) × Unit) → Option ρ) → Option ρ :=
  fun v22 x25 (v15, v16, v17, v18, v19, o23, o24, _) rec =>
  (bif (!(seq v15 (⟨#[]⟩ : ByteArray))) && (!(seq x25.type v15)) then rec (v15, v16, v17, v18, v19, ((Ev.Graph.mk o23.1.nodes o23.1.edges o23.1.next), ()), o24, ())
  else
  (bif (mpHas .i64 .i64 o24 x25.dst) && (((mpGet .i64 .i64 0 o24 x25.dst) : Int) == v18) then
  (bif !(mpHas .i64 .i64 o24 x25.src) then rec (v15, v16, v17, v18, true, ((Ev.Graph.mk o23.1.nodes o23.1.edges o23.1.next), ()), mpPut .i64 .i64 o24 x25.src (IntKind.wrap .i64 (v18 + 1)), ())
  else rec (v15, v16, v17, v18, v19, ((Ev.Graph.mk o23.1.nodes o23.1.edges o23.1.next), ()), o24, ()))
  else rec (v15, v16, v17, v18, v19, ((Ev.Graph.mk o23.1.nodes o23.1.edges o23.1.next), ()), o24, ())))

theorem R_q37z_s2 {ρ : Type} (n : Nat) (kx : ByteArray × Int × Int × Int × Bool × (Ev.Graph × Unit) × (List (Int × Int)) × Unit → Option ρ) (kr : Unit → Option ρ) (l : List Ev.Edg) (fuel : Nat) (v15 : ByteArray) (v16 : Int) (v17 : Int) (v18 : Int) (v19 : Bool) (o23 : Ev.Graph × Unit) (o24 : List (Int × Int)) (hl : l.length ≤ 9223372036854775807) (hf : l.length < fuel) :
    iterN (fun rc => q37z_s2 n rc kx kr) fuel (v15, v16, v17, v18, v19, l, (l.length : Int), 0, o23, o24, ()) = foldK (F_q37z_s2 n kr) (fun (v15, v16, v17, v18, v19, o23, o24, _) => kx (v15, v16, v17, v18, v19, ((Ev.Graph.mk o23.1.nodes o23.1.edges o23.1.next), ()), o24, ())) 0 l (v15, v16, v17, v18, v19, o23, o24, ()) :=
  range_listM l (fun i (v15, v16, v17, v18, v19, o23, o24, _) => (v15, v16, v17, v18, v19, l, (l.length : Int), i, o23, o24, ())) _ _ _ (fun rec i s => rfl) hl fuel (v15, v16, v17, v18, v19, o23, o24, ()) hf

noncomputable def F_q37z_s6 {ρ : Type} (n : Nat) (kr : Unit → Option ρ) : Int → Ev.Edg → (ByteArray × Int × Int × Int × (Ev.Graph × Unit) × (List Int) × (List (Int × Int)) × Unit) → ((ByteArray × Int × Int × Int × (Ev.Graph × Unit) × (List Int) × (List (Int × Int)) × Unit) → Option ρ) → Option ρ :=
  fun v51 x55 (v45, v46, v47, v48, o52, o53, o54, _) rec =>
  (bif (((x55.src : Int) == v47) && (mpHas .i64 .i64 o54 x55.dst)) && ((seq v45 (⟨#[]⟩ : ByteArray)) || (seq x55.type v45)) then
  (bif decide ((v48 : Int) < 0) then rec (v45, v46, v47, v51, ((Ev.Graph.mk o52.1.nodes o52.1.edges o52.1.next), ()), o53, o54, ())
  else
  (ix o52.1.edges v48).bind fun x56 =>
  (bif decide (((mpGet .i64 .i64 0 o54 x55.dst) : Int) < (mpGet .i64 .i64 0 o54 x56.dst)) then rec (v45, v46, v47, v51, ((Ev.Graph.mk o52.1.nodes o52.1.edges o52.1.next), ()), o53, o54, ())
  else rec (v45, v46, v47, v48, ((Ev.Graph.mk o52.1.nodes o52.1.edges o52.1.next), ()), o53, o54, ())))
  else rec (v45, v46, v47, v48, ((Ev.Graph.mk o52.1.nodes o52.1.edges o52.1.next), ()), o53, o54, ()))

theorem R_q37z_s6 {ρ : Type} (n : Nat) (kx : ByteArray × Int × Int × (Ev.Graph × Unit) × (List Int) × (List (Int × Int)) × Unit → Option ρ) (kr : Unit → Option ρ) (l : List Ev.Edg) (fuel : Nat) (v45 : ByteArray) (v46 : Int) (v47 : Int) (v48 : Int) (o52 : Ev.Graph × Unit) (o53 : List Int) (o54 : List (Int × Int)) (hl : l.length ≤ 9223372036854775807) (hf : l.length < fuel) :
    iterN (fun rc => q37z_s6 n rc kx kr) fuel (v45, v46, v47, v48, l, (l.length : Int), 0, o52, o53, o54, ()) = foldK (F_q37z_s6 n kr) (fun (v45, v46, v47, v48, o52, o53, o54, _) => kx (v45, v46, v48, ((Ev.Graph.mk o52.1.nodes o52.1.edges o52.1.next), ()), o53, o54, ())) 0 l (v45, v46, v47, v48, o52, o53, o54, ()) :=
  range_listM l (fun i (v45, v46, v47, v48, o52, o53, o54, _) => (v45, v46, v47, v48, l, (l.length : Int), i, o52, o53, o54, ())) _ _ _ (fun rec i s => rfl) hl fuel (v45, v46, v47, v48, o52, o53, o54, ()) hf

noncomputable def q37z (n : Nat) : Ev.Graph × ByteArray × Int × Int × Unit → Option ((List Int) × Int × Unit) :=
  fun (a1, a2, a3, a4, _) =>
  (q28z n ((Ev.Graph.mk a1.nodes a1.edges a1.next), ())).bind fun (y5, _) =>
  (bif (y5 : Int) != 0 then some (([] : List Int), y5, ())
  else
  (q35z n ((Ev.Graph.mk a1.nodes a1.edges a1.next), a3, ())).bind fun (y6, _) =>
  (bif decide ((y6 : Int) < 0) then some (([] : List Int), 5, ())
  else
  (q35z n ((Ev.Graph.mk a1.nodes a1.edges a1.next), a4, ())).bind fun (y7, _) =>
  (bif decide ((y7 : Int) < 0) then some (([] : List Int), 5, ())
  else
  iterN (fun rc70 => q37z_s0 n rc70 (fun (v34, v35, v36, o37, o38, _) =>
  iterN (fun rc69 => q37z_s4 n rc69 (fun (o66, _) => some (o66, 0, ())) (fun (v67, v68, _) => some (v67, v68, ()))) (n) (v34, v36, v35, ((Ev.Graph.mk o37.1.nodes o37.1.edges o37.1.next), ()), ([] : List Int), o38, ())) (fun (_) => none)) (n) (a2, a3, a4, 0, true, ((Ev.Graph.mk a1.nodes a1.edges a1.next), ()), mpPut .i64 .i64 ([] : List (Int × Int)) a4 0, ()))))

noncomputable def q7z_s0 {ρ : Type} (n : Nat) (rec : (List Ev.Pair) × (List Ev.Pair) × Int × Int × Unit → Option ρ) (kx : Unit → Option ρ) (kr : Bool × Unit → Option ρ) : (List Ev.Pair) × (List Ev.Pair) × Int × Int × Unit → Option ρ :=
  fun (v3, v4, v5, v6, _) =>
  (bif decide ((v6 : Int) < v5) then
  (ix v3 v6).bind fun x9 =>
  (ix v4 v6).bind fun x10 =>
  (bif (!keyEq .pair (Ev.Pair.mk x9.p x9.q) (Ev.Pair.mk x10.p x10.q)) then kr (false, ())
  else rec (v3, v4, v5, IntKind.wrap .i64 (v6 + 1), ()))
  else kx (()))

noncomputable def F_q7z_s0 {ρ : Type} (n : Nat) (kr : Bool × Unit → Option ρ) : Int → Ev.Pair → ((List Ev.Pair) × Unit) → (((List Ev.Pair) × Unit) → Option ρ) → Option ρ :=
  fun v6 x9 (v4, _) rec =>
  (ix v4 v6).bind fun x10 =>
  (bif (!keyEq .pair (Ev.Pair.mk x9.p x9.q) (Ev.Pair.mk x10.p x10.q)) then kr (false, ())
  else rec (v4, ()))

theorem R_q7z_s0 {ρ : Type} (n : Nat) (kx : Unit → Option ρ) (kr : Bool × Unit → Option ρ) (l : List Ev.Pair) (fuel : Nat) (v4 : List Ev.Pair) (hl : l.length ≤ 9223372036854775807) (hf : l.length < fuel) :
    iterN (fun rc => q7z_s0 n rc kx kr) fuel (l, v4, (l.length : Int), 0, ()) = foldK (F_q7z_s0 n kr) (fun (v4, _) => kx (())) 0 l (v4, ()) :=
  range_listM l (fun i (v4, _) => (l, v4, (l.length : Int), i, ())) _ _ _ (fun rec i s => rfl) hl fuel (v4, ()) hf

noncomputable def q7z (n : Nat) : (List Ev.Pair) × (List Ev.Pair) × Unit → Option (Bool × Unit) :=
  fun (a1, a2, _) =>
  (bif ((a1.length : Int) : Int) != (a2.length : Int) then some (false, ())
  else
  iterN (fun rc12 => q7z_s0 n rc12 (fun (_) => some (true, ())) (fun (v11, _) => some (v11, ()))) (n) (a1, a2, (a1.length : Int), 0, ()))

noncomputable def q9z_s0 {ρ : Type} (n : Nat) (rec : (List Int) × (List Int) × Int × Int × Unit → Option ρ) (kx : Unit → Option ρ) (kr : Bool × Unit → Option ρ) : (List Int) × (List Int) × Int × Int × Unit → Option ρ :=
  fun (v3, v4, v5, v6, _) =>
  (bif decide ((v6 : Int) < v5) then
  (ix v3 v6).bind fun x9 =>
  (ix v4 v6).bind fun x10 =>
  (bif (x9 : Int) != x10 then kr (false, ())
  else rec (v3, v4, v5, IntKind.wrap .i64 (v6 + 1), ()))
  else kx (()))

noncomputable def F_q9z_s0 {ρ : Type} (n : Nat) (kr : Bool × Unit → Option ρ) : Int → Int → ((List Int) × Unit) → (((List Int) × Unit) → Option ρ) → Option ρ :=
  fun v6 x9 (v4, _) rec =>
  (ix v4 v6).bind fun x10 =>
  (bif (x9 : Int) != x10 then kr (false, ())
  else rec (v4, ()))

theorem R_q9z_s0 {ρ : Type} (n : Nat) (kx : Unit → Option ρ) (kr : Bool × Unit → Option ρ) (l : List Int) (fuel : Nat) (v4 : List Int) (hl : l.length ≤ 9223372036854775807) (hf : l.length < fuel) :
    iterN (fun rc => q9z_s0 n rc kx kr) fuel (l, v4, (l.length : Int), 0, ()) = foldK (F_q9z_s0 n kr) (fun (v4, _) => kx (())) 0 l (v4, ()) :=
  range_listM l (fun i (v4, _) => (l, v4, (l.length : Int), i, ())) _ _ _ (fun rec i s => rfl) hl fuel (v4, ()) hf

noncomputable def q9z (n : Nat) : (List Int) × (List Int) × Unit → Option (Bool × Unit) :=
  fun (a1, a2, _) =>
  (bif ((a1.length : Int) : Int) != (a2.length : Int) then some (false, ())
  else
  iterN (fun rc12 => q9z_s0 n rc12 (fun (_) => some (true, ())) (fun (v11, _) => some (v11, ()))) (n) (a1, a2, (a1.length : Int), 0, ()))

noncomputable def q10z (n : Nat) : Unit → Option (Bool × Unit) :=
  fun (_) =>
  (q11z (())).bind fun (y1, _) =>
  (reach_All n ((Ev.Graph.mk y1.nodes y1.edges y1.next), (⟨#[75]⟩ : ByteArray), ())).bind fun (y2, y3, _) =>
  (q11z (())).bind fun (y4, _) =>
  (q37z n ((Ev.Graph.mk y4.nodes y4.edges y4.next), (⟨#[]⟩ : ByteArray), 1, 3, ())).bind fun (y5, y6, _) =>
  (bif ((y3 : Int) == 0) && ((y6 : Int) == 0) then
  (q7z n (y2, ([(Ev.Pair.mk 1 2), (Ev.Pair.mk 1 3), (Ev.Pair.mk 2 3)] : List Ev.Pair), ())).bind fun (y7, _) =>
  (bif y7 then
  (q9z n (y5, ([4, 5] : List Int), ())).bind fun (y8, _) => some (y8, ())
  else some (false, ()))
  else some (false, ()))

noncomputable def q5z : Ev.Edg × (Int × Unit) × Unit → Option (Bool × (Int × Unit) × Unit) :=
  fun (a1, o2, _) => some ((a1.id : Int) == o2.1, (o2.1, ()), ())

noncomputable def q0z_s0 {ρ : Type} (n : Nat) (rec : (List Ev.Edg) × Int × Int × (Int × Unit) × Unit → Option ρ) (kx : (Int × Unit) × Unit → Option ρ) (kr : Int × (Int × Unit) × Unit → Option ρ) : (List Ev.Edg) × Int × Int × (Int × Unit) × Unit → Option ρ :=
  fun (v3, v4, v5, o6, _) =>
  (bif decide ((v5 : Int) < v4) then
  (ix v3 v5).bind fun x7 =>
  (q5z ((Ev.Edg.mk x7.id x7.src x7.dst x7.type x7.props), (o6.1, ()), ())).bind fun (y8, o9, _) =>
  (bif y8 then kr (v5, (o9.1, ()), ())
  else rec (v3, v4, IntKind.wrap .i64 (v5 + 1), (o9.1, ()), ()))
  else kx ((o6.1, ()), ()))

noncomputable def F_q0z_s0 {ρ : Type} (n : Nat) (kr : Int × (Int × Unit) × Unit → Option ρ) : Int → Ev.Edg → ((Int × Unit) × Unit) → (((Int × Unit) × Unit) → Option ρ) → Option ρ :=
  fun v5 x7 (o6, _) rec =>
  (q5z ((Ev.Edg.mk x7.id x7.src x7.dst x7.type x7.props), (o6.1, ()), ())).bind fun (y8, o9, _) =>
  (bif y8 then kr (v5, (o9.1, ()), ())
  else rec ((o9.1, ()), ()))

theorem R_q0z_s0 {ρ : Type} (n : Nat) (kx : (Int × Unit) × Unit → Option ρ) (kr : Int × (Int × Unit) × Unit → Option ρ) (l : List Ev.Edg) (fuel : Nat) (o6 : Int × Unit) (hl : l.length ≤ 9223372036854775807) (hf : l.length < fuel) :
    iterN (fun rc => q0z_s0 n rc kx kr) fuel (l, (l.length : Int), 0, o6, ()) = foldK (F_q0z_s0 n kr) (fun (o6, _) => kx ((o6.1, ()), ())) 0 l (o6, ()) :=
  range_listM l (fun i (o6, _) => (l, (l.length : Int), i, o6, ())) _ _ _ (fun rec i s => rfl) hl fuel (o6, ()) hf

noncomputable def q0z (n : Nat) : (List Ev.Edg) × (Int × Unit) × Unit → Option (Int × (Int × Unit) × Unit) :=
  fun (a1, o2, _) =>
  iterN (fun rc13 => q0z_s0 n rc13 (fun (o10, _) => some ((-1), (o10.1, ()), ())) (fun (v11, o12, _) => some (v11, (o12.1, ()), ()))) (n) (a1, (a1.length : Int), 0, (o2.1, ()), ())

noncomputable def q4z : (List ByteArray) × Unit → Option ((List ByteArray) × Unit) :=
  fun (a1, _) =>
  nilq a1 (some (([] : List ByteArray), ())) (
  ck (room (([] : List ByteArray) ++ a1).length 16) (some (([] : List ByteArray) ++ a1, ())))

noncomputable def q38z_s0 {ρ : Type} (self_q38z : Ev.Val × Unit → Option (Ev.Val × Unit)) (n : Nat) (rec : (List Ev.Val) × Int × Int × (Int × Int × ByteArray × Unit) × (Ev.Val × Unit) × (List Ev.Val) × Unit → Option ρ) (kx : (Int × Int × ByteArray × Unit) × (Ev.Val × Unit) × (List Ev.Val) × Unit → Option ρ) (kr : Unit → Option ρ) : (List Ev.Val) × Int × Int × (Int × Int × ByteArray × Unit) × (Ev.Val × Unit) × (List Ev.Val) × Unit → Option ρ :=
  fun (v2, v3, v4, o5, o6, o7, _) =>
  (bif decide ((v4 : Int) < v3) then
  (ix v2 v4).bind fun x8 =>
  (self_q38z ((Ev.Val.mk x8.kind x8.n x8.s x8.l), ())).bind fun (y10, _) =>
  ck (room (o7 ++ ([(Ev.Val.mk y10.kind y10.n y10.s y10.l)] : List Ev.Val)).length 56) (rec (v2, v3, IntKind.wrap .i64 (v4 + 1), (o5.1, o5.2.1, o5.2.2.1, ()), ((Ev.Val.mk o6.1.kind o6.1.n o6.1.s o6.1.l), ()), o7 ++ ([(Ev.Val.mk y10.kind y10.n y10.s y10.l)] : List Ev.Val), ()))
  else kx ((o5.1, o5.2.1, o5.2.2.1, ()), ((Ev.Val.mk o6.1.kind o6.1.n o6.1.s o6.1.l), ()), o7, ()))

noncomputable def F_q38z_s0 {ρ : Type} (self_q38z : Ev.Val × Unit → Option (Ev.Val × Unit)) (n : Nat) (kr : Unit → Option ρ) : Int → Ev.Val → ((Int × Int × ByteArray × Unit) × (Ev.Val × Unit) × (List Ev.Val) × Unit) → (((Int × Int × ByteArray × Unit) × (Ev.Val × Unit) × (List Ev.Val) × Unit) → Option ρ) → Option ρ :=
  fun v4 x8 (o5, o6, o7, _) rec =>
  (self_q38z ((Ev.Val.mk x8.kind x8.n x8.s x8.l), ())).bind fun (y10, _) =>
  ck (room (o7 ++ ([(Ev.Val.mk y10.kind y10.n y10.s y10.l)] : List Ev.Val)).length 56) (rec ((o5.1, o5.2.1, o5.2.2.1, ()), ((Ev.Val.mk o6.1.kind o6.1.n o6.1.s o6.1.l), ()), o7 ++ ([(Ev.Val.mk y10.kind y10.n y10.s y10.l)] : List Ev.Val), ()))

theorem R_q38z_s0 {ρ : Type} (self_q38z : Ev.Val × Unit → Option (Ev.Val × Unit)) (n : Nat) (kx : (Int × Int × ByteArray × Unit) × (Ev.Val × Unit) × (List Ev.Val) × Unit → Option ρ) (kr : Unit → Option ρ) (l : List Ev.Val) (fuel : Nat) (o5 : Int × Int × ByteArray × Unit) (o6 : Ev.Val × Unit) (o7 : List Ev.Val) (hl : l.length ≤ 9223372036854775807) (hf : l.length < fuel) :
    iterN (fun rc => q38z_s0 self_q38z n rc kx kr) fuel (l, (l.length : Int), 0, o5, o6, o7, ()) = foldK (F_q38z_s0 self_q38z n kr) (fun (o5, o6, o7, _) => kx ((o5.1, o5.2.1, o5.2.2.1, ()), ((Ev.Val.mk o6.1.kind o6.1.n o6.1.s o6.1.l), ()), o7, ())) 0 l (o5, o6, o7, ()) :=
  range_listM l (fun i (o5, o6, o7, _) => (l, (l.length : Int), i, o5, o6, o7, ())) _ _ _ (fun rec i s => rfl) hl fuel (o5, o6, o7, ()) hf

noncomputable def q38z_b (self_q38z : Ev.Val × Unit → Option (Ev.Val × Unit)) (n : Nat) : Ev.Val × Unit → Option (Ev.Val × Unit) :=
  fun (a1, _) =>
  iterN (fun rc14 => q38z_s0 self_q38z n rc14 (fun (o11, o12, o13, _) => some ((Ev.Val.mk o11.1 o11.2.1 o11.2.2.1 o13), ())) (fun (_) => none)) (n) (a1.l, (a1.l.length : Int), 0, (a1.kind, a1.n, a1.s, ()), ((Ev.Val.mk 0 0 (⟨#[]⟩ : ByteArray) ([] : List Ev.Val)), ()), ([] : List Ev.Val), ())

noncomputable def q38z : Nat → Ev.Val × Unit → Option (Ev.Val × Unit)
  | 0, _ => none
  | n + 1, x => q38z_b (q38z n) n x

noncomputable def q15z_s0 {ρ : Type} (n : Nat) (rec : (List Ev.Prp) × Int × Int × (List Ev.Prp) × Unit → Option ρ) (kx : (List Ev.Prp) × Unit → Option ρ) (kr : Unit → Option ρ) : (List Ev.Prp) × Int × Int × (List Ev.Prp) × Unit → Option ρ :=
  fun (v2, v3, v4, o5, _) =>
  (bif decide ((v4 : Int) < v3) then
  (ix v2 v4).bind fun x6 =>
  (q38z n ((Ev.Val.mk x6.val.kind x6.val.n x6.val.s x6.val.l), ())).bind fun (y7, _) =>
  ck (room (o5 ++ ([(Ev.Prp.mk x6.name (Ev.Val.mk y7.kind y7.n y7.s y7.l))] : List Ev.Prp)).length 72) (rec (v2, v3, IntKind.wrap .i64 (v4 + 1), o5 ++ ([(Ev.Prp.mk x6.name (Ev.Val.mk y7.kind y7.n y7.s y7.l))] : List Ev.Prp), ()))
  else kx (o5, ()))

noncomputable def F_q15z_s0 {ρ : Type} (n : Nat) (kr : Unit → Option ρ) : Int → Ev.Prp → ((List Ev.Prp) × Unit) → (((List Ev.Prp) × Unit) → Option ρ) → Option ρ :=
  fun v4 x6 (o5, _) rec =>
  (q38z n ((Ev.Val.mk x6.val.kind x6.val.n x6.val.s x6.val.l), ())).bind fun (y7, _) =>
  ck (room (o5 ++ ([(Ev.Prp.mk x6.name (Ev.Val.mk y7.kind y7.n y7.s y7.l))] : List Ev.Prp)).length 72) (rec (o5 ++ ([(Ev.Prp.mk x6.name (Ev.Val.mk y7.kind y7.n y7.s y7.l))] : List Ev.Prp), ()))

theorem R_q15z_s0 {ρ : Type} (n : Nat) (kx : (List Ev.Prp) × Unit → Option ρ) (kr : Unit → Option ρ) (l : List Ev.Prp) (fuel : Nat) (o5 : List Ev.Prp) (hl : l.length ≤ 9223372036854775807) (hf : l.length < fuel) :
    iterN (fun rc => q15z_s0 n rc kx kr) fuel (l, (l.length : Int), 0, o5, ()) = foldK (F_q15z_s0 n kr) (fun (o5, _) => kx (o5, ())) 0 l (o5, ()) :=
  range_listM l (fun i (o5, _) => (l, (l.length : Int), i, o5, ())) _ _ _ (fun rec i s => rfl) hl fuel (o5, ()) hf

noncomputable def q15z (n : Nat) : (List Ev.Prp) × Unit → Option ((List Ev.Prp) × Unit) :=
  fun (a1, _) =>
  iterN (fun rc9 => q15z_s0 n rc9 (fun (o8, _) => some (o8, ())) (fun (_) => none)) (n) (a1, (a1.length : Int), 0, ([] : List Ev.Prp), ())

noncomputable def q17z (n : Nat) : Ev.Node × Unit → Option (Ev.Node × Unit) :=
  fun (a1, _) =>
  (q4z (a1.labels, ())).bind fun (y2, _) =>
  (q15z n (a1.props, ())).bind fun (y3, _) => some ((Ev.Node.mk a1.id y2 y3), ())

noncomputable def q16z (n : Nat) : Ev.Edg × Unit → Option (Ev.Edg × Unit) :=
  fun (a1, _) =>
  (q15z n (a1.props, ())).bind fun (y2, _) => some ((Ev.Edg.mk a1.id a1.src a1.dst a1.type y2), ())

noncomputable def q18z_s0 {ρ : Type} (n : Nat) (rec : (List Ev.Node) × Int × Int × (Ev.Graph × Unit) × (Ev.Graph × Unit) × (Int × Unit) × (List Ev.Node) × Unit → Option ρ) (kx : (Ev.Graph × Unit) × (Ev.Graph × Unit) × (Int × Unit) × (List Ev.Node) × Unit → Option ρ) (kr : Unit → Option ρ) : (List Ev.Node) × Int × Int × (Ev.Graph × Unit) × (Ev.Graph × Unit) × (Int × Unit) × (List Ev.Node) × Unit → Option ρ :=
  fun (v2, v3, v4, o5, o6, o7, o8, _) =>
  (bif decide ((v4 : Int) < v3) then
  (ix v2 v4).bind fun x9 =>
  (q17z n ((Ev.Node.mk x9.id x9.labels x9.props), ())).bind fun (y11, _) =>
  ck (room (o8 ++ ([(Ev.Node.mk y11.id y11.labels y11.props)] : List Ev.Node)).length 56) (rec (v2, v3, IntKind.wrap .i64 (v4 + 1), ((Ev.Graph.mk o5.1.nodes o5.1.edges o5.1.next), ()), ((Ev.Graph.mk o6.1.nodes o6.1.edges o6.1.next), ()), (o7.1, ()), o8 ++ ([(Ev.Node.mk y11.id y11.labels y11.props)] : List Ev.Node), ()))
  else kx (((Ev.Graph.mk o5.1.nodes o5.1.edges o5.1.next), ()), ((Ev.Graph.mk o6.1.nodes o6.1.edges o6.1.next), ()), (o7.1, ()), o8, ()))

noncomputable def q18z_s2 {ρ : Type} (n : Nat) (rec : (List Ev.Edg) × Int × Int × (Ev.Graph × Unit) × (Int × Unit) × (List Ev.Node) × (List Ev.Edg) × Unit → Option ρ) (kx : (Ev.Graph × Unit) × (Int × Unit) × (List Ev.Node) × (List Ev.Edg) × Unit → Option ρ) (kr : Unit → Option ρ) : (List Ev.Edg) × Int × Int × (Ev.Graph × Unit) × (Int × Unit) × (List Ev.Node) × (List Ev.Edg) × Unit → Option ρ :=
  fun (v16, v17, v18, o19, o20, o21, o22, _) =>
  (bif decide ((v18 : Int) < v17) then
  (ix v16 v18).bind fun x23 =>
  (q16z n ((Ev.Edg.mk x23.id x23.src x23.dst x23.type x23.props), ())).bind fun (y25, _) =>
  ck (room (o22 ++ ([(Ev.Edg.mk y25.id y25.src y25.dst y25.type y25.props)] : List Ev.Edg)).length 64) (rec (v16, v17, IntKind.wrap .i64 (v18 + 1), ((Ev.Graph.mk o19.1.nodes o19.1.edges o19.1.next), ()), (o20.1, ()), o21, o22 ++ ([(Ev.Edg.mk y25.id y25.src y25.dst y25.type y25.props)] : List Ev.Edg), ()))
  else kx (((Ev.Graph.mk o19.1.nodes o19.1.edges o19.1.next), ()), (o20.1, ()), o21, o22, ()))

noncomputable def F_q18z_s0 {ρ : Type} (n : Nat) (kr : Unit → Option ρ) : Int → Ev.Node → ((Ev.Graph × Unit) × (Ev.Graph × Unit) × (Int × Unit) × (List Ev.Node) × Unit) → (((Ev.Graph × Unit) × (Ev.Graph × Unit) × (Int × Unit) × (List Ev.Node) × Unit) → Option ρ) → Option ρ :=
  fun v4 x9 (o5, o6, o7, o8, _) rec =>
  (q17z n ((Ev.Node.mk x9.id x9.labels x9.props), ())).bind fun (y11, _) =>
  ck (room (o8 ++ ([(Ev.Node.mk y11.id y11.labels y11.props)] : List Ev.Node)).length 56) (rec (((Ev.Graph.mk o5.1.nodes o5.1.edges o5.1.next), ()), ((Ev.Graph.mk o6.1.nodes o6.1.edges o6.1.next), ()), (o7.1, ()), o8 ++ ([(Ev.Node.mk y11.id y11.labels y11.props)] : List Ev.Node), ()))

theorem R_q18z_s0 {ρ : Type} (n : Nat) (kx : (Ev.Graph × Unit) × (Ev.Graph × Unit) × (Int × Unit) × (List Ev.Node) × Unit → Option ρ) (kr : Unit → Option ρ) (l : List Ev.Node) (fuel : Nat) (o5 : Ev.Graph × Unit) (o6 : Ev.Graph × Unit) (o7 : Int × Unit) (o8 : List Ev.Node) (hl : l.length ≤ 9223372036854775807) (hf : l.length < fuel) :
    iterN (fun rc => q18z_s0 n rc kx kr) fuel (l, (l.length : Int), 0, o5, o6, o7, o8, ()) = foldK (F_q18z_s0 n kr) (fun (o5, o6, o7, o8, _) => kx (((Ev.Graph.mk o5.1.nodes o5.1.edges o5.1.next), ()), ((Ev.Graph.mk o6.1.nodes o6.1.edges o6.1.next), ()), (o7.1, ()), o8, ())) 0 l (o5, o6, o7, o8, ()) :=
  range_listM l (fun i (o5, o6, o7, o8, _) => (l, (l.length : Int), i, o5, o6, o7, o8, ())) _ _ _ (fun rec i s => rfl) hl fuel (o5, o6, o7, o8, ()) hf

noncomputable def F_q18z_s2 {ρ : Type} (n : Nat) (kr : Unit → Option ρ) : Int → Ev.Edg → ((Ev.Graph × Unit) × (Int × Unit) × (List Ev.Node) × (List Ev.Edg) × Unit) → (((Ev.Graph × Unit) × (Int × Unit) × (List Ev.Node) × (List Ev.Edg) × Unit) → Option ρ) → Option ρ :=
  fun v18 x23 (o19, o20, o21, o22, _) rec =>
  (q16z n ((Ev.Edg.mk x23.id x23.src x23.dst x23.type x23.props), ())).bind fun (y25, _) =>
  ck (room (o22 ++ ([(Ev.Edg.mk y25.id y25.src y25.dst y25.type y25.props)] : List Ev.Edg)).length 64) (rec (((Ev.Graph.mk o19.1.nodes o19.1.edges o19.1.next), ()), (o20.1, ()), o21, o22 ++ ([(Ev.Edg.mk y25.id y25.src y25.dst y25.type y25.props)] : List Ev.Edg), ()))

theorem R_q18z_s2 {ρ : Type} (n : Nat) (kx : (Ev.Graph × Unit) × (Int × Unit) × (List Ev.Node) × (List Ev.Edg) × Unit → Option ρ) (kr : Unit → Option ρ) (l : List Ev.Edg) (fuel : Nat) (o19 : Ev.Graph × Unit) (o20 : Int × Unit) (o21 : List Ev.Node) (o22 : List Ev.Edg) (hl : l.length ≤ 9223372036854775807) (hf : l.length < fuel) :
    iterN (fun rc => q18z_s2 n rc kx kr) fuel (l, (l.length : Int), 0, o19, o20, o21, o22, ()) = foldK (F_q18z_s2 n kr) (fun (o19, o20, o21, o22, _) => kx (((Ev.Graph.mk o19.1.nodes o19.1.edges o19.1.next), ()), (o20.1, ()), o21, o22, ())) 0 l (o19, o20, o21, o22, ()) :=
  range_listM l (fun i (o19, o20, o21, o22, _) => (l, (l.length : Int), i, o19, o20, o21, o22, ())) _ _ _ (fun rec i s => rfl) hl fuel (o19, o20, o21, o22, ()) hf

noncomputable def q18z (n : Nat) : Ev.Graph × Unit → Option ((Int × Unit) × (List Ev.Node) × (List Ev.Edg) × Unit) :=
  fun (a1, _) =>
  iterN (fun rc31 => q18z_s0 n rc31 (fun (o12, o13, o14, o15, _) =>
  iterN (fun rc30 => q18z_s2 n rc30 (fun (o26, o27, o28, o29, _) => some ((o27.1, ()), o28, o29, ())) (fun (_) => none)) (n) (o12.1.edges, (o12.1.edges.length : Int), 0, ((Ev.Graph.mk o13.1.nodes o13.1.edges o13.1.next), ()), (o14.1, ()), o15, ([] : List Ev.Edg), ())) (fun (_) => none)) (n) (a1.nodes, (a1.nodes.length : Int), 0, ((Ev.Graph.mk a1.nodes a1.edges a1.next), ()), ((Ev.Graph.mk ([] : List Ev.Node) ([] : List Ev.Edg) 0), ()), (a1.next, ()), ([] : List Ev.Node), ())

noncomputable def q19z : Int × ((Ev.Graph × (List Int) × Unit) × Unit) × Unit → Option (Int × Unit) :=
  fun (a1, a2, _) =>
  (bif (decide ((a1 : Int) < 0)) && (decide ((a1 : Int) ≥ (IntKind.wrap .i64 (0 - (a2.1.2.1.length : Int))))) then
  (ix a2.1.2.1 (IntKind.wrap .i64 ((IntKind.wrap .i64 (0 - a1)) - 1))).bind fun x3 => some (x3, ())
  else some (a1, ()))

noncomputable def q12z : (Int × Unit) × (List Ev.Node) × (List Ev.Edg) × (List Int) × Unit → Option (Int × Int × (Int × Unit) × (List Ev.Node) × (List Ev.Edg) × (List Int) × Unit) :=
  fun (o1, o2, o3, o4, _) =>
  (bif decide ((o1.1 : Int) ≥ 1099511627776) then some (0, 10, (o1.1, ()), o2, o3, o4, ())
  else
  ck (room (o4 ++ ([o1.1] : List Int)).length 8) (some (o1.1, 0, (IntKind.wrap .i64 (o1.1 + 1), ()), o2, o3, o4 ++ ([o1.1] : List Int), ())))

noncomputable def q31z (n : Nat) : Ev.Opn × (Int × Unit) × (List Ev.Node) × (List Ev.Edg) × (List Int) × Unit → Option (Int × (Int × Unit) × (List Ev.Node) × (List Ev.Edg) × (List Int) × Unit) :=
  fun (a1, o2, o3, o4, o5, _) =>
  (q19z (a1.src, (((Ev.Graph.mk o3 o4 o2.1), o5, ()), ()), ())).bind fun (y6, _) =>
  (q19z (a1.dst, (((Ev.Graph.mk o3 o4 o2.1), o5, ()), ()), ())).bind fun (y7, _) =>
  (q35z n ((Ev.Graph.mk o3 o4 o2.1), y6, ())).bind fun (y8, _) =>
  (bif decide ((y8 : Int) < 0) then some (5, (o2.1, ()), o3, o4, o5, ())
  else
  (q35z n ((Ev.Graph.mk o3 o4 o2.1), y7, ())).bind fun (y9, _) =>
  (bif decide ((y9 : Int) < 0) then some (5, (o2.1, ()), o3, o4, o5, ())
  else
  (q36z n (a1.name, ())).bind fun (y10, _) =>
  (bif !y10 then some (6, (o2.1, ()), o3, o4, o5, ())
  else
  (q29z n (a1.props, ())).bind fun (y11, _) =>
  (bif (y11 : Int) != 0 then some (y11, (o2.1, ()), o3, o4, o5, ())
  else
  (bif ((o4.length : Int) : Int) == 60 then some (10, (o2.1, ()), o3, o4, o5, ())
  else
  (q12z ((o2.1, ()), o3, o4, o5, ())).bind fun (y12, y13, o14, o15, o16, o17, _) =>
  (q16z n ((Ev.Edg.mk y12 y6 y7 a1.name a1.props), ())).bind fun (y19, _) =>
  ck (room (o16 ++ ([(Ev.Edg.mk y19.id y19.src y19.dst y19.type y19.props)] : List Ev.Edg)).length 64) (some (y13, (o14.1, ()), o15, o16 ++ ([(Ev.Edg.mk y19.id y19.src y19.dst y19.type y19.props)] : List Ev.Edg), o17, ())))))))

noncomputable def q32z (n : Nat) : Ev.Opn × (Int × Unit) × (List Ev.Node) × (List Ev.Edg) × (List Int) × Unit → Option (Int × (Int × Unit) × (List Ev.Node) × (List Ev.Edg) × (List Int) × Unit) :=
  fun (a1, o2, o3, o4, o5, _) =>
  (q25z n (a1.labels, ())).bind fun (y6, _) =>
  (bif (y6 : Int) != 0 then some (y6, (o2.1, ()), o3, o4, o5, ())
  else
  (q29z n (a1.props, ())).bind fun (y7, _) =>
  (bif (y7 : Int) != 0 then some (y7, (o2.1, ()), o3, o4, o5, ())
  else
  (bif ((o3.length : Int) : Int) == 40 then some (10, (o2.1, ()), o3, o4, o5, ())
  else
  (q12z ((o2.1, ()), o3, o4, o5, ())).bind fun (y8, y9, o10, o11, o12, o13, _) =>
  (q17z n ((Ev.Node.mk y8 a1.labels a1.props), ())).bind fun (y15, _) =>
  ck (room (o11 ++ ([(Ev.Node.mk y15.id y15.labels y15.props)] : List Ev.Node)).length 56) (some (y9, (o10.1, ()), o11 ++ ([(Ev.Node.mk y15.id y15.labels y15.props)] : List Ev.Node), o12, o13, ())))))

noncomputable def txn_Apply_s0 {ρ : Type} (n : Nat) (rec : (List Ev.Opn) × Int × Int × (Ev.Graph × Unit) × Unit × (List Ev.Node) × (Int × Unit) × (List Ev.Edg) × (List Int) × Unit → Option ρ) (kx : (Ev.Graph × Unit) × (List Ev.Node) × (Int × Unit) × (List Ev.Edg) × (List Int) × Unit → Option ρ) (kr : (List Int) × Int × Int × (Ev.Graph × Unit) × Unit → Option ρ) : (List Ev.Opn) × Int × Int × (Ev.Graph × Unit) × Unit × (List Ev.Node) × (Int × Unit) × (List Ev.Edg) × (List Int) × Unit → Option ρ :=
  fun (v7, v8, v9, o10, o11, o12, o13, o14, o15, _) =>
  (bif decide ((v9 : Int) < v8) then
  (ix v7 v9).bind fun x16 =>
  (bif (decide ((x16.kind : Int) > 0)) && (decide ((x16.kind : Int) < 8)) then
  (bif x16.kind == (1 : Int) then
  (q32z n ((Ev.Opn.mk 1 x16.id x16.src x16.dst x16.name (Ev.Val.mk x16.val.kind x16.val.n x16.val.s x16.val.l) x16.labels x16.props), (o13.1, ()), o12, o14, o15, ())).bind fun (y22, o23, o24, o25, o26, _) =>
  (bif (y22 : Int) != 0 then kr (([] : List Int), v9, y22, ((Ev.Graph.mk ([] : List Ev.Node) ([] : List Ev.Edg) 0), ()), ())
  else rec (v7, v8, IntKind.wrap .i64 (v9 + 1), ((Ev.Graph.mk o10.1.nodes o10.1.edges o10.1.next), ()), (()), o24, (o23.1, ()), o25, o26, ()))
  else
  (bif x16.kind == (2 : Int) then
  (q31z n ((Ev.Opn.mk 2 x16.id x16.src x16.dst x16.name (Ev.Val.mk x16.val.kind x16.val.n x16.val.s x16.val.l) x16.labels x16.props), (o13.1, ()), o12, o14, o15, ())).bind fun (y17, o18, o19, o20, o21, _) =>
  (bif (y17 : Int) != 0 then kr (([] : List Int), v9, y17, ((Ev.Graph.mk ([] : List Ev.Node) ([] : List Ev.Edg) 0), ()), ())
  else rec (v7, v8, IntKind.wrap .i64 (v9 + 1), ((Ev.Graph.mk o10.1.nodes o10.1.edges o10.1.next), ()), (()), o19, (o18.1, ()), o20, o21, ()))
  else none))
  else kr (([] : List Int), v9, 9, ((Ev.Graph.mk ([] : List Ev.Node) ([] : List Ev.Edg) 0), ()), ()))
  else kx (((Ev.Graph.mk o10.1.nodes o10.1.edges o10.1.next), ()), o12, (o13.1, ()), o14, o15, ()))

noncomputable def F_txn_Apply_s0 {ρ : Type} (n : Nat) (kr : (List Int) × Int × Int × (Ev.Graph × Unit) × Unit → Option ρ) : Int → Ev.Opn → ((Ev.Graph × Unit) × Unit × (List Ev.Node) × (Int × Unit) × (List Ev.Edg) × (List Int) × Unit) → (((Ev.Graph × Unit) × Unit × (List Ev.Node) × (Int × Unit) × (List Ev.Edg) × (List Int) × Unit) → Option ρ) → Option ρ :=
  fun v9 x16 (o10, o11, o12, o13, o14, o15, _) rec =>
  (bif (decide ((x16.kind : Int) > 0)) && (decide ((x16.kind : Int) < 8)) then
  (bif x16.kind == (1 : Int) then
  (q32z n ((Ev.Opn.mk 1 x16.id x16.src x16.dst x16.name (Ev.Val.mk x16.val.kind x16.val.n x16.val.s x16.val.l) x16.labels x16.props), (o13.1, ()), o12, o14, o15, ())).bind fun (y22, o23, o24, o25, o26, _) =>
  (bif (y22 : Int) != 0 then kr (([] : List Int), v9, y22, ((Ev.Graph.mk ([] : List Ev.Node) ([] : List Ev.Edg) 0), ()), ())
  else rec (((Ev.Graph.mk o10.1.nodes o10.1.edges o10.1.next), ()), (()), o24, (o23.1, ()), o25, o26, ()))
  else
  (bif x16.kind == (2 : Int) then
  (q31z n ((Ev.Opn.mk 2 x16.id x16.src x16.dst x16.name (Ev.Val.mk x16.val.kind x16.val.n x16.val.s x16.val.l) x16.labels x16.props), (o13.1, ()), o12, o14, o15, ())).bind fun (y17, o18, o19, o20, o21, _) =>
  (bif (y17 : Int) != 0 then kr (([] : List Int), v9, y17, ((Ev.Graph.mk ([] : List Ev.Node) ([] : List Ev.Edg) 0), ()), ())
  else rec (((Ev.Graph.mk o10.1.nodes o10.1.edges o10.1.next), ()), (()), o19, (o18.1, ()), o20, o21, ()))
  else none))
  else kr (([] : List Int), v9, 9, ((Ev.Graph.mk ([] : List Ev.Node) ([] : List Ev.Edg) 0), ()), ()))

theorem R_txn_Apply_s0 {ρ : Type} (n : Nat) (kx : (Ev.Graph × Unit) × (List Ev.Node) × (Int × Unit) × (List Ev.Edg) × (List Int) × Unit → Option ρ) (kr : (List Int) × Int × Int × (Ev.Graph × Unit) × Unit → Option ρ) (l : List Ev.Opn) (fuel : Nat) (o10 : Ev.Graph × Unit) (o11 : Unit) (o12 : List Ev.Node) (o13 : Int × Unit) (o14 : List Ev.Edg) (o15 : List Int) (hl : l.length ≤ 9223372036854775807) (hf : l.length < fuel) :
    iterN (fun rc => txn_Apply_s0 n rc kx kr) fuel (l, (l.length : Int), 0, o10, o11, o12, o13, o14, o15, ()) = foldK (F_txn_Apply_s0 n kr) (fun (o10, o11, o12, o13, o14, o15, _) => kx (((Ev.Graph.mk o10.1.nodes o10.1.edges o10.1.next), ()), o12, (o13.1, ()), o14, o15, ())) 0 l (o10, o11, o12, o13, o14, o15, ()) :=
  range_listM l (fun i (o10, o11, o12, o13, o14, o15, _) => (l, (l.length : Int), i, o10, o11, o12, o13, o14, o15, ())) _ _ _ (fun rec i s => rfl) hl fuel (o10, o11, o12, o13, o14, o15, ()) hf

noncomputable def txn_Apply (n : Nat) : Ev.Graph × (List Ev.Opn) × Unit → Option (Ev.Graph × (List Int) × Int × Int × Unit) :=
  fun (a1, a2, _) =>
  (q28z n ((Ev.Graph.mk a1.nodes a1.edges a1.next), ())).bind fun (y3, _) =>
  (bif (y3 : Int) != 0 then some ((Ev.Graph.mk ([] : List Ev.Node) ([] : List Ev.Edg) 0), ([] : List Int), 0, y3, ())
  else
  (bif decide (((a2.length : Int) : Int) > 20) then some ((Ev.Graph.mk ([] : List Ev.Node) ([] : List Ev.Edg) 0), ([] : List Int), 0, 2, ())
  else
  (q18z n ((Ev.Graph.mk a1.nodes a1.edges a1.next), ())).bind fun (y4, o5, o6, _) =>
  iterN (fun rc36 => txn_Apply_s0 n rc36 (fun (o27, o28, o29, o30, o31, _) => some ((Ev.Graph.mk o28 o30 o29.1), o31, 0, 0, ())) (fun (v32, v33, v34, o35, _) => some ((Ev.Graph.mk o35.1.nodes o35.1.edges o35.1.next), v32, v33, v34, ()))) (n) (a2, (a2.length : Int), 0, ((Ev.Graph.mk ([] : List Ev.Node) ([] : List Ev.Edg) 0), ()), (()), o5, (y4.1, ()), o6, ([] : List Int), ())))

noncomputable def q20z : Ev.Edg × (Ev.Edg × Unit) × Unit → Option (Bool × (Ev.Edg × Unit) × Unit) :=
  fun (a1, o2, _) => some (((((a1.id : Int) == o2.1.id) && ((a1.src : Int) == o2.1.src)) && ((a1.dst : Int) == o2.1.dst)) && (seq a1.type o2.1.type), ((Ev.Edg.mk o2.1.id o2.1.src o2.1.dst o2.1.type o2.1.props), ()), ())

noncomputable def q3z_s0 {ρ : Type} (n : Nat) (rec : (List Ev.Edg) × Int × Int × (Ev.Edg × Unit) × Unit → Option ρ) (kx : (Ev.Edg × Unit) × Unit → Option ρ) (kr : Int × (Ev.Edg × Unit) × Unit → Option ρ) : (List Ev.Edg) × Int × Int × (Ev.Edg × Unit) × Unit → Option ρ :=
  fun (v3, v4, v5, o6, _) =>
  (bif decide ((v5 : Int) < v4) then
  (ix v3 v5).bind fun x7 =>
  (q20z ((Ev.Edg.mk x7.id x7.src x7.dst x7.type x7.props), ((Ev.Edg.mk o6.1.id o6.1.src o6.1.dst o6.1.type o6.1.props), ()), ())).bind fun (y8, o9, _) =>
  (bif y8 then kr (v5, ((Ev.Edg.mk o9.1.id o9.1.src o9.1.dst o9.1.type o9.1.props), ()), ())
  else rec (v3, v4, IntKind.wrap .i64 (v5 + 1), ((Ev.Edg.mk o9.1.id o9.1.src o9.1.dst o9.1.type o9.1.props), ()), ()))
  else kx (((Ev.Edg.mk o6.1.id o6.1.src o6.1.dst o6.1.type o6.1.props), ()), ()))

noncomputable def F_q3z_s0 {ρ : Type} (n : Nat) (kr : Int × (Ev.Edg × Unit) × Unit → Option ρ) : Int → Ev.Edg → ((Ev.Edg × Unit) × Unit) → (((Ev.Edg × Unit) × Unit) → Option ρ) → Option ρ :=
  fun v5 x7 (o6, _) rec =>
  (q20z ((Ev.Edg.mk x7.id x7.src x7.dst x7.type x7.props), ((Ev.Edg.mk o6.1.id o6.1.src o6.1.dst o6.1.type o6.1.props), ()), ())).bind fun (y8, o9, _) =>
  (bif y8 then kr (v5, ((Ev.Edg.mk o9.1.id o9.1.src o9.1.dst o9.1.type o9.1.props), ()), ())
  else rec (((Ev.Edg.mk o9.1.id o9.1.src o9.1.dst o9.1.type o9.1.props), ()), ()))

theorem R_q3z_s0 {ρ : Type} (n : Nat) (kx : (Ev.Edg × Unit) × Unit → Option ρ) (kr : Int × (Ev.Edg × Unit) × Unit → Option ρ) (l : List Ev.Edg) (fuel : Nat) (o6 : Ev.Edg × Unit) (hl : l.length ≤ 9223372036854775807) (hf : l.length < fuel) :
    iterN (fun rc => q3z_s0 n rc kx kr) fuel (l, (l.length : Int), 0, o6, ()) = foldK (F_q3z_s0 n kr) (fun (o6, _) => kx (((Ev.Edg.mk o6.1.id o6.1.src o6.1.dst o6.1.type o6.1.props), ()), ())) 0 l (o6, ()) :=
  range_listM l (fun i (o6, _) => (l, (l.length : Int), i, o6, ())) _ _ _ (fun rec i s => rfl) hl fuel (o6, ()) hf

noncomputable def q3z (n : Nat) : (List Ev.Edg) × (Ev.Edg × Unit) × Unit → Option (Int × (Ev.Edg × Unit) × Unit) :=
  fun (a1, o2, _) =>
  iterN (fun rc13 => q3z_s0 n rc13 (fun (o10, _) => some ((-1), ((Ev.Edg.mk o10.1.id o10.1.src o10.1.dst o10.1.type o10.1.props), ()), ())) (fun (v11, o12, _) => some (v11, ((Ev.Edg.mk o12.1.id o12.1.src o12.1.dst o12.1.type o12.1.props), ()), ()))) (n) (a1, (a1.length : Int), 0, ((Ev.Edg.mk o2.1.id o2.1.src o2.1.dst o2.1.type o2.1.props), ()), ())

noncomputable def q2z (n : Nat) : (List Ev.Edg) × (Ev.Edg × Unit) × Unit → Option (Bool × (Ev.Edg × Unit) × Unit) :=
  fun (a1, o2, _) =>
  (q3z n (a1, ((Ev.Edg.mk o2.1.id o2.1.src o2.1.dst o2.1.type o2.1.props), ()), ())).bind fun (y3, o4, _) => some (decide ((y3 : Int) ≥ 0), ((Ev.Edg.mk o4.1.id o4.1.src o4.1.dst o4.1.type o4.1.props), ()), ())

noncomputable def q21z : Ev.Pair × Unit × (List (Ev.Pair × Bool)) × Unit × (List Ev.Pair) × Unit → Option (Unit × (List (Ev.Pair × Bool)) × Unit × (List Ev.Pair) × Unit) :=
  fun (a1, o2, o3, o4, o5, _) =>
  (bif !(mpGet .pair .bool false o3 (Ev.Pair.mk a1.p a1.q)) then
  ck (room (o5 ++ ([(Ev.Pair.mk a1.p a1.q)] : List Ev.Pair)).length 16) (some ((()), mpPut .pair .bool o3 (Ev.Pair.mk a1.p a1.q) true, (()), o5 ++ ([(Ev.Pair.mk a1.p a1.q)] : List Ev.Pair), ()))
  else some ((()), o3, (()), o5, ()))

noncomputable def q22z_s0 {ρ : Type} (n : Nat) (rec : (List (Ev.Pair × Bool)) × (List Ev.Pair) × (List (Ev.Pair × Bool)) × Unit → Option ρ) (kx : (List Ev.Pair) × Unit → Option ρ) (kr : Unit → Option ρ) : (List (Ev.Pair × Bool)) × (List Ev.Pair) × (List (Ev.Pair × Bool)) × Unit → Option ρ :=
  fun (v3, o4, o5, _) =>
  rngM o5 (kx (o4, ())) (fun en6 re7 =>
  (bif !(mpGet .pair .bool false v3 (Ev.Pair.mk en6.1.p en6.1.q)) then
  ck (room (o4 ++ ([(Ev.Pair.mk en6.1.p en6.1.q)] : List Ev.Pair)).length 16) (rec (v3, o4 ++ ([(Ev.Pair.mk en6.1.p en6.1.q)] : List Ev.Pair), re7, ()))
  else rec (v3, o4, re7, ())))

noncomputable def q22z (n : Nat) : (List (Ev.Pair × Bool)) × (List (Ev.Pair × Bool)) × Unit → Option ((List Ev.Pair) × Unit) :=
  fun (a1, a2, _) =>
  iterN (fun rc11 => q22z_s0 n rc11 (fun (o8, _) =>
  (sfPair (o8, ())).bind fun (o9, _) =>
  (q30z n (o9, ())).bind fun (y10, _) => some (y10, ())) (fun (_) => none)) (n) (a2, ([] : List Ev.Pair), a1, ())

noncomputable def q26z_s0 {ρ : Type} (n : Nat) (rec : ByteArray × (Ev.Graph × Ev.Graph) × Int × (Ev.Graph × Unit) × (Ev.Graph × Unit) × Unit → Option ρ) (kx : ByteArray × (Ev.Graph × Unit) × (Ev.Graph × Unit) × Unit → Option ρ) (kr : (List Ev.Pair) × (List Ev.Pair) × Int × Unit → Option ρ) : ByteArray × (Ev.Graph × Ev.Graph) × Int × (Ev.Graph × Unit) × (Ev.Graph × Unit) × Unit → Option ρ :=
  fun (v4, v5, v6, o7, o8, _) =>
  (bif decide ((v6 : Int) < 2) then
  (ix ([(Ev.Graph.mk v5.1.nodes v5.1.edges v5.1.next), (Ev.Graph.mk v5.2.nodes v5.2.edges v5.2.next)] : List Ev.Graph) v6).bind fun x9 =>
  (q28z n ((Ev.Graph.mk x9.nodes x9.edges x9.next), ())).bind fun (y10, _) =>
  (bif (y10 : Int) != 0 then kr (([] : List Ev.Pair), ([] : List Ev.Pair), y10, ())
  else rec (v4, ((Ev.Graph.mk v5.1.nodes v5.1.edges v5.1.next), (Ev.Graph.mk v5.2.nodes v5.2.edges v5.2.next)), IntKind.wrap .i64 (v6 + 1), ((Ev.Graph.mk o7.1.nodes o7.1.edges o7.1.next), ()), ((Ev.Graph.mk o8.1.nodes o8.1.edges o8.1.next), ()), ()))
  else kx (v4, ((Ev.Graph.mk o7.1.nodes o7.1.edges o7.1.next), ()), ((Ev.Graph.mk o8.1.nodes o8.1.edges o8.1.next), ()), ()))

noncomputable def q26z_s2 {ρ : Type} (n : Nat) (rec : ByteArray × (List (Ev.Pair × Bool)) × (Ev.Graph × Unit) × (Ev.Graph × Unit) × Unit × (List (Ev.Pair × Bool)) × (List (Ev.Pair × Bool)) × Unit → Option ρ) (kx : ByteArray × (List (Ev.Pair × Bool)) × (Ev.Graph × Unit) × (Ev.Graph × Unit) × Unit × (List (Ev.Pair × Bool)) × Unit → Option ρ) (kr : Unit → Option ρ) : ByteArray × (List (Ev.Pair × Bool)) × (Ev.Graph × Unit) × (Ev.Graph × Unit) × Unit × (List (Ev.Pair × Bool)) × (List (Ev.Pair × Bool)) × Unit → Option ρ :=
  fun (v18, v19, o20, o21, o22, o23, o24, _) =>
  rngM o24 (kx (v18, v19, ((Ev.Graph.mk o20.1.nodes o20.1.edges o20.1.next), ()), ((Ev.Graph.mk o21.1.nodes o21.1.edges o21.1.next), ()), (()), o23, ())) (fun en25 re26 => rec (v18, v19, ((Ev.Graph.mk o20.1.nodes o20.1.edges o20.1.next), ()), ((Ev.Graph.mk o21.1.nodes o21.1.edges o21.1.next), ()), (()), mpPut .pair .bool o23 (Ev.Pair.mk en25.1.p en25.1.q) true, re26, ()))

noncomputable def q26z_s6 {ρ : Type} (n : Nat) (rec : ByteArray × (List (Ev.Pair × Bool)) × (List Ev.Edg) × Int × Int × (Ev.Graph × Unit) × Unit × (Ev.Edg × Unit) × (List (Ev.Pair × Bool)) × (List (Ev.Pair × Bool)) × Unit → Option ρ) (kx : ByteArray × (List (Ev.Pair × Bool)) × (List Ev.Edg) × Int × Int × (Ev.Graph × Unit) × Unit × (List (Ev.Pair × Bool)) × Unit → Option ρ) (kr : Unit → Option ρ) : ByteArray × (List (Ev.Pair × Bool)) × (List Ev.Edg) × Int × Int × (Ev.Graph × Unit) × Unit × (Ev.Edg × Unit) × (List (Ev.Pair × Bool)) × (List (Ev.Pair × Bool)) × Unit → Option ρ :=
  fun (v44, v45, v46, v47, v48, o49, o50, o51, o52, o53, _) =>
  rngM o53 (kx (v44, v45, v46, v47, v48, ((Ev.Graph.mk o49.1.nodes o49.1.edges o49.1.next), ()), (()), o52, ())) (fun en54 re55 =>
  (bif (en54.1.p : Int) == o51.1.src then
  (bif (en54.1.q : Int) == o51.1.dst then rec (v44, v45, v46, v47, v48, ((Ev.Graph.mk o49.1.nodes o49.1.edges o49.1.next), ()), (()), ((Ev.Edg.mk o51.1.id o51.1.src o51.1.dst o51.1.type o51.1.props), ()), mpDel .pair .bool o52 (Ev.Pair.mk en54.1.p en54.1.q), re55, ())
  else
  (bif (mpGet .pair .bool false v45 (Ev.Pair.mk o51.1.dst en54.1.q)) then rec (v44, v45, v46, v47, v48, ((Ev.Graph.mk o49.1.nodes o49.1.edges o49.1.next), ()), (()), ((Ev.Edg.mk o51.1.id o51.1.src o51.1.dst o51.1.type o51.1.props), ()), mpDel .pair .bool o52 (Ev.Pair.mk en54.1.p en54.1.q), re55, ())
  else rec (v44, v45, v46, v47, v48, ((Ev.Graph.mk o49.1.nodes o49.1.edges o49.1.next), ()), (()), ((Ev.Edg.mk o51.1.id o51.1.src o51.1.dst o51.1.type o51.1.props), ()), o52, re55, ())))
  else
  (bif (mpGet .pair .bool false v45 (Ev.Pair.mk en54.1.p o51.1.src)) then
  (bif (en54.1.q : Int) == o51.1.dst then rec (v44, v45, v46, v47, v48, ((Ev.Graph.mk o49.1.nodes o49.1.edges o49.1.next), ()), (()), ((Ev.Edg.mk o51.1.id o51.1.src o51.1.dst o51.1.type o51.1.props), ()), mpDel .pair .bool o52 (Ev.Pair.mk en54.1.p en54.1.q), re55, ())
  else
  (bif (mpGet .pair .bool false v45 (Ev.Pair.mk o51.1.dst en54.1.q)) then rec (v44, v45, v46, v47, v48, ((Ev.Graph.mk o49.1.nodes o49.1.edges o49.1.next), ()), (()), ((Ev.Edg.mk o51.1.id o51.1.src o51.1.dst o51.1.type o51.1.props), ()), mpDel .pair .bool o52 (Ev.Pair.mk en54.1.p en54.1.q), re55, ())
  else rec (v44, v45, v46, v47, v48, ((Ev.Graph.mk o49.1.nodes o49.1.edges o49.1.next), ()), (()), ((Ev.Edg.mk o51.1.id o51.1.src o51.1.dst o51.1.type o51.1.props), ()), o52, re55, ())))
  else rec (v44, v45, v46, v47, v48, ((Ev.Graph.mk o49.1.nodes o49.1.edges o49.1.next), ()), (()), ((Ev.Edg.mk o51.1.id o51.1.src o51.1.dst o51.1.type o51.1.props), ()), o52, re55, ()))))

noncomputable def q26z_s4 {ρ : Type} (n : Nat) (rec : ByteArray × (List (Ev.Pair × Bool)) × (List Ev.Edg) × Int × Int × (Ev.Graph × Unit) × Unit × (List (Ev.Pair × Bool)) × Unit → Option ρ) (kx : ByteArray × (List (Ev.Pair × Bool)) × (Ev.Graph × Unit) × Unit × (List (Ev.Pair × Bool)) × Unit → Option ρ) (kr : Unit → Option ρ) : ByteArray × (List (Ev.Pair × Bool)) × (List Ev.Edg) × Int × Int × (Ev.Graph × Unit) × Unit × (List (Ev.Pair × Bool)) × Unit → Option ρ :=
  fun (v33, v34, v35, v36, v37, o38, o39, o40, _) =>
  (bif decide ((v37 : Int) < v36) then
  (ix v35 v37).bind fun x41 =>
  (bif (!(seq v33 (⟨#[]⟩ : ByteArray))) && (!(seq x41.type v33)) then rec (v33, v34, v35, v36, IntKind.wrap .i64 (v37 + 1), ((Ev.Graph.mk o38.1.nodes o38.1.edges o38.1.next), ()), (()), o40, ())
  else
  (q2z n (o38.1.edges, ((Ev.Edg.mk x41.id x41.src x41.dst x41.type x41.props), ()), ())).bind fun (y42, o43, _) =>
  (bif y42 then rec (v33, v34, v35, v36, IntKind.wrap .i64 (v37 + 1), ((Ev.Graph.mk o38.1.nodes o38.1.edges o38.1.next), ()), (()), o40, ())
  else
  iterN (fun rc64 => q26z_s6 n rc64 (fun (v56, v57, v58, v59, v60, o61, o62, o63, _) => rec (v56, v57, v58, v59, IntKind.wrap .i64 (v60 + 1), ((Ev.Graph.mk o61.1.nodes o61.1.edges o61.1.next), ()), (()), o63, ())) (fun (_) => none)) (n) (v33, v34, v35, v36, v37, ((Ev.Graph.mk o38.1.nodes o38.1.edges o38.1.next), ()), (()), ((Ev.Edg.mk o43.1.id o43.1.src o43.1.dst o43.1.type o43.1.props), ()), o40, v34, ())))
  else kx (v33, v34, ((Ev.Graph.mk o38.1.nodes o38.1.edges o38.1.next), ()), (()), o40, ()))

noncomputable def q26z_s8 {ρ : Type} (n : Nat) (rec : ByteArray × (List (Ev.Pair × Bool)) × (List (Int × (List Int))) × (List Ev.Edg) × Int × Int × Unit × Unit × (List (Ev.Pair × Bool)) × (List Ev.Pair) × Unit → Option ρ) (kx : (List (Ev.Pair × Bool)) × (List (Int × (List Int))) × Unit × Unit × (List (Ev.Pair × Bool)) × (List Ev.Pair) × Unit → Option ρ) (kr : Unit → Option ρ) : ByteArray × (List (Ev.Pair × Bool)) × (List (Int × (List Int))) × (List Ev.Edg) × Int × Int × Unit × Unit × (List (Ev.Pair × Bool)) × (List Ev.Pair) × Unit → Option ρ :=
  fun (v71, v72, v73, v74, v75, v76, o77, o78, o79, o80, _) =>
  (bif decide ((v76 : Int) < v75) then
  (ix v74 v76).bind fun x81 =>
  (bif (seq v71 (⟨#[]⟩ : ByteArray)) || (seq x81.type v71) then
  (q21z ((Ev.Pair.mk x81.src x81.dst), (()), o79, (()), o80, ())).bind fun (o82, o83, o84, o85, _) => rec (v71, v72, v73, v74, v75, IntKind.wrap .i64 (v76 + 1), (()), (()), o83, o85, ())
  else rec (v71, v72, v73, v74, v75, IntKind.wrap .i64 (v76 + 1), (()), (()), o79, o80, ()))
  else kx (v72, v73, (()), (()), o79, o80, ()))

noncomputable def q26z_s10 {ρ : Type} (n : Nat) (rec : (List (Ev.Pair × Bool)) × (List (Int × (List Int))) × (List Ev.Pair) × Int × Int × Unit × Unit × (List (Ev.Pair × Bool)) × (List Ev.Pair) × Unit → Option ρ) (kx : (List (Ev.Pair × Bool)) × (List (Int × (List Int))) × Unit × Unit × (List (Ev.Pair × Bool)) × (List Ev.Pair) × Unit → Option ρ) (kr : Unit → Option ρ) : (List (Ev.Pair × Bool)) × (List (Int × (List Int))) × (List Ev.Pair) × Int × Int × Unit × Unit × (List (Ev.Pair × Bool)) × (List Ev.Pair) × Unit → Option ρ :=
  fun (v93, v94, v95, v96, v97, o98, o99, o100, o101, _) =>
  (bif decide ((v97 : Int) < v96) then
  (ix v95 v97).bind fun x102 =>
  ck (room (o101 ++ ([(Ev.Pair.mk x102.p x102.q)] : List Ev.Pair)).length 16) (rec (v93, v94, v95, v96, IntKind.wrap .i64 (v97 + 1), (()), (()), o100, o101 ++ ([(Ev.Pair.mk x102.p x102.q)] : List Ev.Pair), ()))
  else kx (v93, v94, (()), (()), o100, o101, ()))

noncomputable def q26z_s14 {ρ : Type} (n : Nat) (rec : (List (Ev.Pair × Bool)) × (List (Int × (List Int))) × (List Int) × Int × Int × Unit × Unit × (Ev.Pair × Unit) × (List (Ev.Pair × Bool)) × (List Ev.Pair) × Unit → Option ρ) (kx : (List (Ev.Pair × Bool)) × (List (Int × (List Int))) × Unit × Unit × (List (Ev.Pair × Bool)) × (List Ev.Pair) × Unit → Option ρ) (kr : Unit → Option ρ) : (List (Ev.Pair × Bool)) × (List (Int × (List Int))) × (List Int) × Int × Int × Unit × Unit × (Ev.Pair × Unit) × (List (Ev.Pair × Bool)) × (List Ev.Pair) × Unit → Option ρ :=
  fun (v117, v118, v119, v120, v121, o122, o123, o124, o125, o126, _) =>
  (bif decide ((v121 : Int) < v120) then
  (ix v119 v121).bind fun x127 =>
  (q21z ((Ev.Pair.mk o124.1.p x127), (()), o125, (()), o126, ())).bind fun (o128, o129, o130, o131, _) => rec (v117, v118, v119, v120, IntKind.wrap .i64 (v121 + 1), (()), (()), ((Ev.Pair.mk o124.1.p o124.1.q), ()), o129, o131, ())
  else kx (v117, v118, (()), (()), o125, o126, ()))

noncomputable def q26z_s12 {ρ : Type} (n : Nat) (rec : (List (Ev.Pair × Bool)) × (List (Int × (List Int))) × Unit × Unit × (List (Ev.Pair × Bool)) × (List Ev.Pair) × Unit → Option ρ) (kx : (List (Ev.Pair × Bool)) × Unit × (List (Ev.Pair × Bool)) × Unit → Option ρ) (kr : Unit → Option ρ) : (List (Ev.Pair × Bool)) × (List (Int × (List Int))) × Unit × Unit × (List (Ev.Pair × Bool)) × (List Ev.Pair) × Unit → Option ρ :=
  fun (v109, v110, o111, o112, o113, o114, _) =>
  (bif decide (((o114.length : Int) : Int) > 0) then
  (ix o114 (IntKind.wrap .i64 ((o114.length : Int) - 1))).bind fun _ =>
  ((o114)[(IntKind.wrap .i64 ((o114.length : Int) - 1) : Int).toNat]?).bind fun e115 =>
  (cut? o114 (IntKind.wrap .i64 ((o114.length : Int) - 1))).bind fun r116 =>
  iterN (fun rc138 => q26z_s14 n rc138 (fun (v132, v133, o134, o135, o136, o137, _) => rec (v132, v133, (()), (()), o136, o137, ())) (fun (_) => none)) (n) (v109, v110, (mpGet .i64 (.lst .i64) ([] : List Int) v110 e115.q), ((mpGet .i64 (.lst .i64) ([] : List Int) v110 e115.q).length : Int), 0, (()), (()), ((Ev.Pair.mk e115.p e115.q), ()), o113, r116, ())
  else kx (v109, (()), o113, ()))

noncomputable def F_q26z_s8 {ρ : Type} (n : Nat) (kr : Unit → Option ρ) : Int → Ev.Edg → (ByteArray × (List (Ev.Pair × Bool)) × (List (Int × (List Int))) × Unit × Unit × (List (Ev.Pair × Bool)) × (List Ev.Pair) × Unit) → ((ByteArray × (List (Ev.Pair × Bool)) × (List (Int × (List Int))) × Unit × Unit × (List (Ev.Pair × Bool)) × (List Ev.Pair) × Unit) → Option ρ) → Option ρ :=
  fun v76 x81 (v71, v72, v73, o77, o78, o79, o80, _) rec =>
  (bif (seq v71 (⟨#[]⟩ : ByteArray)) || (seq x81.type v71) then
  (q21z ((Ev.Pair.mk x81.src x81.dst), (()), o79, (()), o80, ())).bind fun (o82, o83, o84, o85, _) => rec (v71, v72, v73, (()), (()), o83, o85, ())
  else rec (v71, v72, v73, (()), (()), o79, o80, ()))

theorem R_q26z_s8 {ρ : Type} (n : Nat) (kx : (List (Ev.Pair × Bool)) × (List (Int × (List Int))) × Unit × Unit × (List (Ev.Pair × Bool)) × (List Ev.Pair) × Unit → Option ρ) (kr : Unit → Option ρ) (l : List Ev.Edg) (fuel : Nat) (v71 : ByteArray) (v72 : List (Ev.Pair × Bool)) (v73 : List (Int × (List Int))) (o77 : Unit) (o78 : Unit) (o79 : List (Ev.Pair × Bool)) (o80 : List Ev.Pair) (hl : l.length ≤ 9223372036854775807) (hf : l.length < fuel) :
    iterN (fun rc => q26z_s8 n rc kx kr) fuel (v71, v72, v73, l, (l.length : Int), 0, o77, o78, o79, o80, ()) = foldK (F_q26z_s8 n kr) (fun (v71, v72, v73, o77, o78, o79, o80, _) => kx (v72, v73, (()), (()), o79, o80, ())) 0 l (v71, v72, v73, o77, o78, o79, o80, ()) :=
  range_listM l (fun i (v71, v72, v73, o77, o78, o79, o80, _) => (v71, v72, v73, l, (l.length : Int), i, o77, o78, o79, o80, ())) _ _ _ (fun rec i s => rfl) hl fuel (v71, v72, v73, o77, o78, o79, o80, ()) hf

noncomputable def F_q26z_s10 {ρ : Type} (n : Nat) (kr : Unit → Option ρ) : Int → Ev.Pair → ((List (Ev.Pair × Bool)) × (List (Int × (List Int))) × Unit × Unit × (List (Ev.Pair × Bool)) × (List Ev.Pair) × Unit) → (((List (Ev.Pair × Bool)) × (List (Int × (List Int))) × Unit × Unit × (List (Ev.Pair × Bool)) × (List Ev.Pair) × Unit) → Option ρ) → Option ρ :=
  fun v97 x102 (v93, v94, o98, o99, o100, o101, _) rec =>
  ck (room (o101 ++ ([(Ev.Pair.mk x102.p x102.q)] : List Ev.Pair)).length 16) (rec (v93, v94, (()), (()), o100, o101 ++ ([(Ev.Pair.mk x102.p x102.q)] : List Ev.Pair), ()))

theorem R_q26z_s10 {ρ : Type} (n : Nat) (kx : (List (Ev.Pair × Bool)) × (List (Int × (List Int))) × Unit × Unit × (List (Ev.Pair × Bool)) × (List Ev.Pair) × Unit → Option ρ) (kr : Unit → Option ρ) (l : List Ev.Pair) (fuel : Nat) (v93 : List (Ev.Pair × Bool)) (v94 : List (Int × (List Int))) (o98 : Unit) (o99 : Unit) (o100 : List (Ev.Pair × Bool)) (o101 : List Ev.Pair) (hl : l.length ≤ 9223372036854775807) (hf : l.length < fuel) :
    iterN (fun rc => q26z_s10 n rc kx kr) fuel (v93, v94, l, (l.length : Int), 0, o98, o99, o100, o101, ()) = foldK (F_q26z_s10 n kr) (fun (v93, v94, o98, o99, o100, o101, _) => kx (v93, v94, (()), (()), o100, o101, ())) 0 l (v93, v94, o98, o99, o100, o101, ()) :=
  range_listM l (fun i (v93, v94, o98, o99, o100, o101, _) => (v93, v94, l, (l.length : Int), i, o98, o99, o100, o101, ())) _ _ _ (fun rec i s => rfl) hl fuel (v93, v94, o98, o99, o100, o101, ()) hf

noncomputable def F_q26z_s14 {ρ : Type} (n : Nat) (kr : Unit → Option ρ) : Int → Int → ((List (Ev.Pair × Bool)) × (List (Int × (List Int))) × Unit × Unit × (Ev.Pair × Unit) × (List (Ev.Pair × Bool)) × (List Ev.Pair) × Unit) → (((List (Ev.Pair × Bool)) × (List (Int × (List Int))) × Unit × Unit × (Ev.Pair × Unit) × (List (Ev.Pair × Bool)) × (List Ev.Pair) × Unit) → Option ρ) → Option ρ :=
  fun v121 x127 (v117, v118, o122, o123, o124, o125, o126, _) rec =>
  (q21z ((Ev.Pair.mk o124.1.p x127), (()), o125, (()), o126, ())).bind fun (o128, o129, o130, o131, _) => rec (v117, v118, (()), (()), ((Ev.Pair.mk o124.1.p o124.1.q), ()), o129, o131, ())

theorem R_q26z_s14 {ρ : Type} (n : Nat) (kx : (List (Ev.Pair × Bool)) × (List (Int × (List Int))) × Unit × Unit × (List (Ev.Pair × Bool)) × (List Ev.Pair) × Unit → Option ρ) (kr : Unit → Option ρ) (l : List Int) (fuel : Nat) (v117 : List (Ev.Pair × Bool)) (v118 : List (Int × (List Int))) (o122 : Unit) (o123 : Unit) (o124 : Ev.Pair × Unit) (o125 : List (Ev.Pair × Bool)) (o126 : List Ev.Pair) (hl : l.length ≤ 9223372036854775807) (hf : l.length < fuel) :
    iterN (fun rc => q26z_s14 n rc kx kr) fuel (v117, v118, l, (l.length : Int), 0, o122, o123, o124, o125, o126, ()) = foldK (F_q26z_s14 n kr) (fun (v117, v118, o122, o123, o124, o125, o126, _) => kx (v117, v118, (()), (()), o125, o126, ())) 0 l (v117, v118, o122, o123, o124, o125, o126, ()) :=
  range_listM l (fun i (v117, v118, o122, o123, o124, o125, o126, _) => (v117, v118, l, (l.length : Int), i, o122, o123, o124, o125, o126, ())) _ _ _ (fun rec i s => rfl) hl fuel (v117, v118, o122, o123, o124, o125, o126, ()) hf

noncomputable def q26z (n : Nat) : Ev.Graph × Ev.Graph × ByteArray × Unit → Option ((List Ev.Pair) × (List Ev.Pair) × Int × Unit) :=
  fun (a1, a2, a3, _) =>
  iterN (fun rc149 => q26z_s0 n rc149 (fun (v11, o12, o13, _) =>
  (reach_Set n ((Ev.Graph.mk o12.1.nodes o12.1.edges o12.1.next), v11, ())).bind fun (y17, _) =>
  iterN (fun rc148 => q26z_s2 n rc148 (fun (v27, v28, o29, o30, o31, o32, _) =>
  iterN (fun rc147 => q26z_s4 n rc147 (fun (v65, v66, o67, o68, o69, _) =>
  (nextN ((Ev.Graph.mk o67.1.nodes o67.1.edges o67.1.next), v65, ())).bind fun (y70, _) =>
  iterN (fun rc146 => q26z_s8 n rc146 (fun (v86, v87, o88, o89, o90, o91, _) =>
  (q27z n (o90, ())).bind fun (y92, _) =>
  iterN (fun rc145 => q26z_s10 n rc145 (fun (v103, v104, o105, o106, o107, o108, _) =>
  iterN (fun rc144 => q26z_s12 n rc144 (fun (v139, o140, o141, _) =>
  (q22z n (v139, o141, ())).bind fun (y142, _) =>
  (q22z n (o141, v139, ())).bind fun (y143, _) => some (y142, y143, 0, ())) (fun (_) => none)) (n) (v103, v104, (()), (()), o107, o108, ())) (fun (_) => none)) (n) (v86, v87, y92, (y92.length : Int), 0, (()), (()), o90, o91, ())) (fun (_) => none)) (n) (v65, v66, y70, o67.1.edges, (o67.1.edges.length : Int), 0, (()), (()), o69, ([] : List Ev.Pair), ())) (fun (_) => none)) (n) (v27, v28, o29.1.edges, (o29.1.edges.length : Int), 0, ((Ev.Graph.mk o30.1.nodes o30.1.edges o30.1.next), ()), (()), o32, ())) (fun (_) => none)) (n) (v11, y17, ((Ev.Graph.mk o12.1.nodes o12.1.edges o12.1.next), ()), ((Ev.Graph.mk o13.1.nodes o13.1.edges o13.1.next), ()), (()), ([] : List (Ev.Pair × Bool)), y17, ())) (fun (v14, v15, v16, _) => some (v14, v15, v16, ()))) (n) (a3, ((Ev.Graph.mk a1.nodes a1.edges a1.next), (Ev.Graph.mk a2.nodes a2.edges a2.next)), 0, ((Ev.Graph.mk a1.nodes a1.edges a1.next), ()), ((Ev.Graph.mk a2.nodes a2.edges a2.next), ()), ())

noncomputable def q8z_s0 {ρ : Type} (n : Nat) (rec : ByteArray × Int × Int × (List Ev.Pair) × (List Ev.Pair) × Int × Int × (Ev.Graph × Unit) × (List (Ev.Pair × Bool)) × Unit → Option ρ) (kx : ByteArray × Int × Int × (List Ev.Pair) × (Ev.Graph × Unit) × (List (Ev.Pair × Bool)) × Unit → Option ρ) (kr : Unit → Option ρ) : ByteArray × Int × Int × (List Ev.Pair) × (List Ev.Pair) × Int × Int × (Ev.Graph × Unit) × (List (Ev.Pair × Bool)) × Unit → Option ρ :=
  fun (v9, v10, v11, v12, v13, v14, v15, o16, o17, _) =>
  (bif decide ((v15 : Int) < v14) then
  (ix v13 v15).bind fun x18 => rec (v9, v10, v11, v12, v13, v14, IntKind.wrap .i64 (v15 + 1), ((Ev.Graph.mk o16.1.nodes o16.1.edges o16.1.next), ()), mpPut .pair .bool o17 (Ev.Pair.mk x18.p x18.q) true, ())
  else kx (v9, v10, v11, v12, ((Ev.Graph.mk o16.1.nodes o16.1.edges o16.1.next), ()), o17, ()))

noncomputable def q8z_s4 {ρ : Type} (n : Nat) (rec : ByteArray × Int × Int × (List Ev.Pair) × (List Ev.Pair) × Int × Int × (List Ev.Pair) × Int × Int × (Ev.Graph × Unit) × (Ev.Pair × Unit) × (List (Ev.Pair × Bool)) × Unit → Option ρ) (kx : ByteArray × Int × Int × (List Ev.Pair) × (List Ev.Pair) × Int × Int × (Ev.Graph × Unit) × (List (Ev.Pair × Bool)) × Unit → Option ρ) (kr : Bool × Unit → Option ρ) : ByteArray × Int × Int × (List Ev.Pair) × (List Ev.Pair) × Int × Int × (List Ev.Pair) × Int × Int × (Ev.Graph × Unit) × (Ev.Pair × Unit) × (List (Ev.Pair × Bool)) × Unit → Option ρ :=
  fun (v35, v36, v37, v38, v39, v40, v41, v42, v43, v44, o45, o46, o47, _) =>
  (bif decide ((v44 : Int) < v43) then
  (ix v42 v44).bind fun x48 =>
  (bif (o46.1.q : Int) == x48.p then
  (bif !(mpGet .pair .bool false o47 (Ev.Pair.mk o46.1.p x48.q)) then kr (false, ())
  else rec (v35, v36, v37, v38, v39, v40, v41, v42, v43, IntKind.wrap .i64 (v44 + 1), ((Ev.Graph.mk o45.1.nodes o45.1.edges o45.1.next), ()), ((Ev.Pair.mk o46.1.p o46.1.q), ()), o47, ()))
  else rec (v35, v36, v37, v38, v39, v40, v41, v42, v43, IntKind.wrap .i64 (v44 + 1), ((Ev.Graph.mk o45.1.nodes o45.1.edges o45.1.next), ()), ((Ev.Pair.mk o46.1.p o46.1.q), ()), o47, ()))
  else kx (v35, v36, v37, v38, v39, v40, v41, ((Ev.Graph.mk o45.1.nodes o45.1.edges o45.1.next), ()), o47, ()))

noncomputable def q8z_s2 {ρ : Type} (n : Nat) (rec : ByteArray × Int × Int × (List Ev.Pair) × (List Ev.Pair) × Int × Int × (Ev.Graph × Unit) × (List (Ev.Pair × Bool)) × Unit → Option ρ) (kx : ByteArray × Int × Int × (Ev.Graph × Unit) × (List (Ev.Pair × Bool)) × Unit → Option ρ) (kr : Bool × Unit → Option ρ) : ByteArray × Int × Int × (List Ev.Pair) × (List Ev.Pair) × Int × Int × (Ev.Graph × Unit) × (List (Ev.Pair × Bool)) × Unit → Option ρ :=
  fun (v25, v26, v27, v28, v29, v30, v31, o32, o33, _) =>
  (bif decide ((v31 : Int) < v30) then
  (ix v29 v31).bind fun x34 =>
  iterN (fun rc59 => q8z_s4 n rc59 (fun (v49, v50, v51, v52, v53, v54, v55, o56, o57, _) => rec (v49, v50, v51, v52, v53, v54, IntKind.wrap .i64 (v55 + 1), ((Ev.Graph.mk o56.1.nodes o56.1.edges o56.1.next), ()), o57, ())) (fun (v58, _) => kr (v58, ()))) (n) (v25, v26, v27, v28, v29, v30, v31, v28, (v28.length : Int), 0, ((Ev.Graph.mk o32.1.nodes o32.1.edges o32.1.next), ()), ((Ev.Pair.mk x34.p x34.q), ()), o33, ())
  else kx (v25, v26, v27, ((Ev.Graph.mk o32.1.nodes o32.1.edges o32.1.next), ()), o33, ()))

noncomputable def q8z_s6 {ρ : Type} (n : Nat) (rec : ByteArray × Int × Int × Int × (List Int) × Int × (List Int) × Int × Int × (Ev.Graph × Unit) × Unit → Option ρ) (kx : ByteArray × Int × Int × Int × (List Int) × Int × (Ev.Graph × Unit) × Unit → Option ρ) (kr : Bool × Unit → Option ρ) : ByteArray × Int × Int × Int × (List Int) × Int × (List Int) × Int × Int × (Ev.Graph × Unit) × Unit → Option ρ :=
  fun (v68, v69, v70, v71, v72, v73, v74, v75, v76, o77, _) =>
  (bif decide ((v76 : Int) < v75) then
  (ix v74 v76).bind fun x78 =>
  (q0z n (o77.1.edges, (x78, ()), ())).bind fun (y79, o80, _) =>
  (bif decide ((y79 : Int) < 0) then kr (false, ())
  else
  (ix o77.1.edges y79).bind fun x81 =>
  (bif (x81.src : Int) != v73 then kr (false, ())
  else
  (ix o77.1.edges y79).bind fun x82 => rec (v68, v69, v70, v71, v72, x82.dst, v74, v75, IntKind.wrap .i64 (v76 + 1), ((Ev.Graph.mk o77.1.nodes o77.1.edges o77.1.next), ()), ())))
  else kx (v68, v69, v70, v71, v72, v73, ((Ev.Graph.mk o77.1.nodes o77.1.edges o77.1.next), ()), ()))

noncomputable def F_q8z_s0 {ρ : Type} (n : Nat) (kr : Unit → Option ρ) : Int → Ev.Pair → (ByteArray × Int × Int × (List Ev.Pair) × (Ev.Graph × Unit) × (List (Ev.Pair × Bool)) × Unit) → ((ByteArray × Int × Int × (List Ev.Pair) × (Ev.Graph × Unit) × (List (Ev.Pair × Bool)) × Unit) → Option ρ) → Option ρ :=
  fun v15 x18 (v9, v10, v11, v12, o16, o17, _) rec =>  rec (v9, v10, v11, v12, ((Ev.Graph.mk o16.1.nodes o16.1.edges o16.1.next), ()), mpPut .pair .bool o17 (Ev.Pair.mk x18.p x18.q) true, ())

theorem R_q8z_s0 {ρ : Type} (n : Nat) (kx : ByteArray × Int × Int × (List Ev.Pair) × (Ev.Graph × Unit) × (List (Ev.Pair × Bool)) × Unit → Option ρ) (kr : Unit → Option ρ) (l : List Ev.Pair) (fuel : Nat) (v9 : ByteArray) (v10 : Int) (v11 : Int) (v12 : List Ev.Pair) (o16 : Ev.Graph × Unit) (o17 : List (Ev.Pair × Bool)) (hl : l.length ≤ 9223372036854775807) (hf : l.length < fuel) :
    iterN (fun rc => q8z_s0 n rc kx kr) fuel (v9, v10, v11, v12, l, (l.length : Int), 0, o16, o17, ()) = foldK (F_q8z_s0 n kr) (fun (v9, v10, v11, v12, o16, o17, _) => kx (v9, v10, v11, v12, ((Ev.Graph.mk o16.1.nodes o16.1.edges o16.1.next), ()), o17, ())) 0 l (v9, v10, v11, v12, o16, o17, ()) :=
  range_listM l (fun i (v9, v10, v11, v12, o16, o17, _) => (v9, v10, v11, v12, l, (l.length : Int), i, o16, o17, ())) _ _ _ (fun rec i s => rfl) hl fuel (v9, v10, v11, v12, o16, o17, ()) hf

noncomputable def F_q8z_s4 {ρ : Type} (n : Nat) (kr : Bool × Unit → Option ρ) : Int → Ev.Pair → (ByteArray × Int × Int × (List Ev.Pair) × (List Ev.Pair) × Int × Int × (Ev.Graph × Unit) × (Ev.Pair × Unit) × (List (Ev.Pair × Bool)) × Unit) → ((ByteArray × Int × Int × (List Ev.Pair) × (List Ev.Pair) × Int × Int × (Ev.Graph × Unit) × (Ev.Pair × Unit) × (List (Ev.Pair × Bool)) × Unit) → Option ρ) → Option ρ :=
  fun v44 x48 (v35, v36, v37, v38, v39, v40, v41, o45, o46, o47, _) rec =>
  (bif (o46.1.q : Int) == x48.p then
  (bif !(mpGet .pair .bool false o47 (Ev.Pair.mk o46.1.p x48.q)) then kr (false, ())
  else rec (v35, v36, v37, v38, v39, v40, v41, ((Ev.Graph.mk o45.1.nodes o45.1.edges o45.1.next), ()), ((Ev.Pair.mk o46.1.p o46.1.q), ()), o47, ()))
  else rec (v35, v36, v37, v38, v39, v40, v41, ((Ev.Graph.mk o45.1.nodes o45.1.edges o45.1.next), ()), ((Ev.Pair.mk o46.1.p o46.1.q), ()), o47, ()))

theorem R_q8z_s4 {ρ : Type} (n : Nat) (kx : ByteArray × Int × Int × (List Ev.Pair) × (List Ev.Pair) × Int × Int × (Ev.Graph × Unit) × (List (Ev.Pair × Bool)) × Unit → Option ρ) (kr : Bool × Unit → Option ρ) (l : List Ev.Pair) (fuel : Nat) (v35 : ByteArray) (v36 : Int) (v37 : Int) (v38 : List Ev.Pair) (v39 : List Ev.Pair) (v40 : Int) (v41 : Int) (o45 : Ev.Graph × Unit) (o46 : Ev.Pair × Unit) (o47 : List (Ev.Pair × Bool)) (hl : l.length ≤ 9223372036854775807) (hf : l.length < fuel) :
    iterN (fun rc => q8z_s4 n rc kx kr) fuel (v35, v36, v37, v38, v39, v40, v41, l, (l.length : Int), 0, o45, o46, o47, ()) = foldK (F_q8z_s4 n kr) (fun (v35, v36, v37, v38, v39, v40, v41, o45, o46, o47, _) => kx (v35, v36, v37, v38, v39, v40, v41, ((Ev.Graph.mk o45.1.nodes o45.1.edges o45.1.next), ()), o47, ())) 0 l (v35, v36, v37, v38, v39, v40, v41, o45, o46, o47, ()) :=
  range_listM l (fun i (v35, v36, v37, v38, v39, v40, v41, o45, o46, o47, _) => (v35, v36, v37, v38, v39, v40, v41, l, (l.length : Int), i, o45, o46, o47, ())) _ _ _ (fun rec i s => rfl) hl fuel (v35, v36, v37, v38, v39, v40, v41, o45, o46, o47, ()) hf

noncomputable def F_q8z_s6 {ρ : Type} (n : Nat) (kr : Bool × Unit → Option ρ) : Int → Int → (ByteArray × Int × Int × Int × (List Int) × Int × (Ev.Graph × Unit) × Unit) → ((ByteArray × Int × Int × Int × (List Int) × Int × (Ev.Graph × Unit) × Unit) → Option ρ) → Option ρ :=
  fun v76 x78 (v68, v69, v70, v71, v72, v73, o77, _) rec =>
  (q0z n (o77.1.edges, (x78, ()), ())).bind fun (y79, o80, _) =>
  (bif decide ((y79 : Int) < 0) then kr (false, ())
  else
  (ix o77.1.edges y79).bind fun x81 =>
  (bif (x81.src : Int) != v73 then kr (false, ())
  else
  (ix o77.1.edges y79).bind fun x82 => rec (v68, v69, v70, v71, v72, x82.dst, ((Ev.Graph.mk o77.1.nodes o77.1.edges o77.1.next), ()), ())))

theorem R_q8z_s6 {ρ : Type} (n : Nat) (kx : ByteArray × Int × Int × Int × (List Int) × Int × (Ev.Graph × Unit) × Unit → Option ρ) (kr : Bool × Unit → Option ρ) (l : List Int) (fuel : Nat) (v68 : ByteArray) (v69 : Int) (v70 : Int) (v71 : Int) (v72 : List Int) (v73 : Int) (o77 : Ev.Graph × Unit) (hl : l.length ≤ 9223372036854775807) (hf : l.length < fuel) :
    iterN (fun rc => q8z_s6 n rc kx kr) fuel (v68, v69, v70, v71, v72, v73, l, (l.length : Int), 0, o77, ()) = foldK (F_q8z_s6 n kr) (fun (v68, v69, v70, v71, v72, v73, o77, _) => kx (v68, v69, v70, v71, v72, v73, ((Ev.Graph.mk o77.1.nodes o77.1.edges o77.1.next), ()), ())) 0 l (v68, v69, v70, v71, v72, v73, o77, ()) :=
  range_listM l (fun i (v68, v69, v70, v71, v72, v73, o77, _) => (v68, v69, v70, v71, v72, v73, l, (l.length : Int), i, o77, ())) _ _ _ (fun rec i s => rfl) hl fuel (v68, v69, v70, v71, v72, v73, o77, ()) hf

noncomputable def q8z (n : Nat) : Ev.Graph × ByteArray × Int × Int × Unit → Option (Bool × Unit) :=
  fun (a1, a2, a3, a4, _) =>
  (reach_All n ((Ev.Graph.mk a1.nodes a1.edges a1.next), a2, ())).bind fun (y5, y6, _) =>
  (q10z n (())).bind fun (y7, _) =>
  (bif (!y7) || ((y6 : Int) != 0) then
  (q10z n (())).bind fun (y8, _) => some (y8, ())
  else
  iterN (fun rc100 => q8z_s0 n rc100 (fun (v19, v20, v21, v22, o23, o24, _) =>
  iterN (fun rc99 => q8z_s2 n rc99 (fun (v60, v61, v62, o63, o64, _) =>
  (q37z n ((Ev.Graph.mk o63.1.nodes o63.1.edges o63.1.next), v60, v61, v62, ())).bind fun (y66, y67, _) =>
  (bif !(((y67 : Int) == 0) == (mpGet .pair .bool false o64 (Ev.Pair.mk v61 v62))) then some (false, ())
  else
  iterN (fun rc98 => q8z_s6 n rc98 (fun (v83, v84, v85, v86, v87, v88, o89, _) =>
  (bif ((v86 : Int) == 0) && (((v88 : Int) != v85) || (((v87.length : Int) : Int) == 0)) then some (false, ())
  else
  (txn_Apply n ((Ev.Graph.mk o89.1.nodes o89.1.edges o89.1.next), ([(Ev.Opn.mk 2 0 v84 v85 (⟨#[75]⟩ : ByteArray) (Ev.Val.mk 0 0 (⟨#[]⟩ : ByteArray) ([] : List Ev.Val)) ([] : List ByteArray) ([] : List Ev.Prp))] : List Ev.Opn), ())).bind fun (y91, y92, y93, y94, _) =>
  (bif (y94 : Int) != 0 then some (true, ())
  else
  (q26z n ((Ev.Graph.mk o89.1.nodes o89.1.edges o89.1.next), (Ev.Graph.mk y91.nodes y91.edges y91.next), v83, ())).bind fun (y95, y96, y97, _) => some (((y97 : Int) == 0) && (((y95.length : Int) : Int) == 0), ())))) (fun (v90, _) => some (v90, ()))) (n) (v60, v61, v62, y67, y66, v61, y66, (y66.length : Int), 0, ((Ev.Graph.mk o63.1.nodes o63.1.edges o63.1.next), ()), ()))) (fun (v65, _) => some (v65, ()))) (n) (v19, v20, v21, v22, v22, (v22.length : Int), 0, ((Ev.Graph.mk o23.1.nodes o23.1.edges o23.1.next), ()), o24, ())) (fun (_) => none)) (n) (a2, a3, a4, y5, y5, (y5.length : Int), 0, ((Ev.Graph.mk a1.nodes a1.edges a1.next), ()), ([] : List (Ev.Pair × Bool)), ()))

end Pure

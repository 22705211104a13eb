/- Plain functions that compute what functions of the program compute (written by gen.py). -/
import Derived.Test.YtjecnkdkhniflaaDoorEvLib
import Derived.Test.YtjecnkdkhniflaaDoorPRange
import Derived.Test.YtjecnkdkhniflaaDoorEvRng
import Derived.Test.YtjecnkdkhniflaaDoorEvRise2
import Derived.Test.YtjecnkdkhniflaaDoorEvSortL
import Derived.Test.YtjecnkdkhniflaaDoorPNext
namespace Pure
open Esp Ev Go
set_option linter.unusedSimpArgs false
set_option linter.unusedVariables false

noncomputable def q27z_s0 {ρ : Type} (n : Nat) (rec : ByteArray × Int × Int × Unit → Option ρ) (kx : Unit → Option ρ) (kr : Bool × Unit → Option ρ) : ByteArray × Int × Int × Unit → Option ρ :=
  fun (v2, v3, v4, _) =>
  (bif decide ((v4 : Int) < v3) then
  (sat v2 v4).bind fun c5 =>
  (bif (!((((decide ((c5 : Int) ≥ 97)) && (decide ((c5 : Int) ≤ 122))) || ((decide ((c5 : Int) ≥ 65)) && (decide ((c5 : Int) ≤ 90)))) || ((c5 : Int) == 95))) && ((((v4 : Int) == 0) || (decide ((c5 : Int) < 48))) || (decide ((c5 : Int) > 57))) then kr (false, ())
  else rec (v2, v3, IntKind.wrap .i64 (v4 + 1), ()))
  else kx (()))

noncomputable def F_q27z_s0 {ρ : Type} (n : Nat) (kr : Bool × Unit → Option ρ) : Int → Int → Unit → (Unit → Option ρ) → Option ρ :=
  fun v4 c5 (_) rec =>
  (bif (!((((decide ((c5 : Int) ≥ 97)) && (decide ((c5 : Int) ≤ 122))) || ((decide ((c5 : Int) ≥ 65)) && (decide ((c5 : Int) ≤ 90)))) || ((c5 : Int) == 95))) && ((((v4 : Int) == 0) || (decide ((c5 : Int) < 48))) || (decide ((c5 : Int) > 57))) then kr (false, ())
  else rec (()))

theorem R_q27z_s0 {ρ : Type} (n : Nat) (kx : Unit → Option ρ) (kr : Bool × Unit → Option ρ) (l : ByteArray) (fuel : Nat) (hl : l.size ≤ 4611686018427387904) (hf : l.size < fuel) :
    iterN (fun rc => q27z_s0 n rc kx kr) fuel (l, (l.size : Int), 0, ()) = foldK (F_q27z_s0 n kr) (fun (_) => kx (())) 0 (bi l.data.toList) (()) :=
  range_str l (fun i (_) => (l, (l.size : Int), i, ())) _ _ _ (fun rec i s => rfl) hl fuel (()) hf

noncomputable def q27z (n : Nat) : ByteArray × Unit → Option (Bool × Unit) :=
  fun (a1, _) =>
  (bif (seq a1 (⟨#[]⟩ : ByteArray)) || (decide (((a1.size : Int) : Int) > 12)) then some (false, ())
  else
  iterN (fun rc7 => q27z_s0 n rc7 (fun (_) => some (true, ())) (fun (v6, _) => some (v6, ()))) (n) (a1, (a1.size : Int), 0, ()))

noncomputable def q19z_s0 {ρ : Type} (n : Nat) (rec : (List ByteArray) × (List ByteArray) × Int × Int × Unit → Option ρ) (kx : Unit → Option ρ) (kr : Int × Unit → Option ρ) : (List ByteArray) × (List ByteArray) × Int × Int × Unit → Option ρ :=
  fun (v2, v3, v4, v5, _) =>
  (bif decide ((v5 : Int) < v4) then
  (ix v3 v5).bind fun x6 =>
  (q27z n (x6, ())).bind fun (y7, _) =>
  (bif !y7 then kr (6, ())
  else
  (bif decide ((v5 : Int) > 0) then
  (ix v2 (IntKind.wrap .i64 (v5 - 1))).bind fun x8 =>
  (bif !(sless x8 x6) then kr (6, ())
  else rec (v2, v3, v4, IntKind.wrap .i64 (v5 + 1), ()))
  else rec (v2, v3, v4, IntKind.wrap .i64 (v5 + 1), ())))
  else kx (()))

noncomputable def F_q19z_s0 {ρ : Type} (n : Nat) (kr : Int × Unit → Option ρ) : Int → ByteArray → ((List ByteArray) × Unit) → (((List ByteArray) × Unit) → Option ρ) → Option ρ :=
  fun v5 x6 (v2, _) rec =>
  (q27z n (x6, ())).bind fun (y7, _) =>
  (bif !y7 then kr (6, ())
  else
  (bif decide ((v5 : Int) > 0) then
  (ix v2 (IntKind.wrap .i64 (v5 - 1))).bind fun x8 =>
  (bif !(sless x8 x6) then kr (6, ())
  else rec (v2, ()))
  else rec (v2, ())))

theorem R_q19z_s0 {ρ : Type} (n : Nat) (kx : Unit → Option ρ) (kr : Int × Unit → Option ρ) (l : List ByteArray) (fuel : Nat) (v2 : List ByteArray) (hl : l.length ≤ 9223372036854775807) (hf : l.length < fuel) :
    iterN (fun rc => q19z_s0 n rc kx kr) fuel (v2, l, (l.length : Int), 0, ()) = foldK (F_q19z_s0 n kr) (fun (v2, _) => kx (())) 0 l (v2, ()) :=
  range_listM l (fun i (v2, _) => (v2, l, (l.length : Int), i, ())) _ _ _ (fun rec i s => rfl) hl fuel (v2, ()) hf

noncomputable def q19z (n : Nat) : (List ByteArray) × Unit → Option (Int × Unit) :=
  fun (a1, _) =>
  (bif decide (((a1.length : Int) : Int) > 4) then some (2, ())
  else
  iterN (fun rc10 => q19z_s0 n rc10 (fun (_) => some (0, ())) (fun (v9, _) => some (v9, ()))) (n) (a1, a1, (a1.length : Int), 0, ()))

noncomputable def q25z_s1 {ρ : Type} (self_q25z : Ev.Val × Int × Unit → Option (Int × Unit)) (n : Nat) (rec : Int × (List Ev.Val) × Int × Int × (Ev.Val × Unit) × Unit → Option ρ) (kx : (Ev.Val × Unit) × Unit → Option ρ) (kr : Int × Unit → Option ρ) : Int × (List Ev.Val) × Int × Int × (Ev.Val × Unit) × Unit → Option ρ :=
  fun (v4, v5, v6, v7, o8, _) =>
  (bif decide ((v7 : Int) < v6) then
  (ix v5 v7).bind fun x9 =>
  (self_q25z ((Ev.Val.mk x9.kind x9.n x9.s x9.l), IntKind.wrap .i64 (v4 + 1), ())).bind fun (y10, _) =>
  (bif (y10 : Int) != 0 then kr (y10, ())
  else rec (v4, v5, v6, IntKind.wrap .i64 (v7 + 1), ((Ev.Val.mk o8.1.kind o8.1.n o8.1.s o8.1.l), ()), ()))
  else kx (((Ev.Val.mk o8.1.kind o8.1.n o8.1.s o8.1.l), ()), ()))

noncomputable def F_q25z_s1 {ρ : Type} (self_q25z : Ev.Val × Int × Unit → Option (Int × Unit)) (n : Nat) (kr : Int × Unit → Option ρ) : Int → Ev.Val → (Int × (Ev.Val × Unit) × Unit) → ((Int × (Ev.Val × Unit) × Unit) → Option ρ) → Option ρ :=
  fun v7 x9 (v4, o8, _) rec =>
  (self_q25z ((Ev.Val.mk x9.kind x9.n x9.s x9.l), IntKind.wrap .i64 (v4 + 1), ())).bind fun (y10, _) =>
  (bif (y10 : Int) != 0 then kr (y10, ())
  else rec (v4, ((Ev.Val.mk o8.1.kind o8.1.n o8.1.s o8.1.l), ()), ()))

theorem R_q25z_s1 {ρ : Type} (self_q25z : Ev.Val × Int × Unit → Option (Int × Unit)) (n : Nat) (kx : (Ev.Val × Unit) × Unit → Option ρ) (kr : Int × Unit → Option ρ) (l : List Ev.Val) (fuel : Nat) (v4 : Int) (o8 : Ev.Val × Unit) (hl : l.length ≤ 9223372036854775807) (hf : l.length < fuel) :
    iterN (fun rc => q25z_s1 self_q25z n rc kx kr) fuel (v4, l, (l.length : Int), 0, o8, ()) = foldK (F_q25z_s1 self_q25z n kr) (fun (v4, o8, _) => kx (((Ev.Val.mk o8.1.kind o8.1.n o8.1.s o8.1.l), ()), ())) 0 l (v4, o8, ()) :=
  range_listM l (fun i (v4, o8, _) => (v4, l, (l.length : Int), i, o8, ())) _ _ _ (fun rec i s => rfl) hl fuel (v4, o8, ()) hf

noncomputable def q25z_b (self_q25z : Ev.Val × Int × Unit → Option (Int × Unit)) (n : Nat) : Ev.Val × Int × Unit → Option (Int × Unit) :=
  fun (a1, a2, _) =>
  (bif (a1.kind : Int) == 0 then
  (bif !((((a1.n : Int) == 0) && (seq a1.s (⟨#[]⟩ : ByteArray))) && (((a1.l.length : Int) : Int) == 0)) then some (6, ())
  else some (0, ()))
  else
  (bif (a1.kind : Int) == 1 then
  (bif !(((((a1.n : Int) == 0) || ((a1.n : Int) == 1)) && (seq a1.s (⟨#[]⟩ : ByteArray))) && (((a1.l.length : Int) : Int) == 0)) then some (6, ())
  else some (0, ()))
  else
  (bif (a1.kind : Int) == 2 then
  (bif !((seq a1.s (⟨#[]⟩ : ByteArray)) && (((a1.l.length : Int) : Int) == 0)) then some (6, ())
  else some (0, ()))
  else
  (bif (a1.kind : Int) == 3 then
  (bif decide (((a1.s.size : Int) : Int) > 4000) then some (2, ())
  else
  (bif (a1.n : Int) == 0 then
  (validN (a1.s, ())).bind fun (y3, _) =>
  (bif !(y3 && (((a1.l.length : Int) : Int) == 0)) then some (6, ())
  else some (0, ()))
  else some (6, ())))
  else
  (bif (a1.kind : Int) == 4 then
  (bif (decide (((a1.l.length : Int) : Int) > 30)) || (decide ((a2 : Int) > 6)) then some (2, ())
  else
  iterN (fun rc13 => q25z_s1 self_q25z n rc13 (fun (o11, _) =>
  (bif !(((o11.1.n : Int) == 0) && (seq o11.1.s (⟨#[]⟩ : ByteArray))) then some (6, ())
  else some (0, ()))) (fun (v12, _) => some (v12, ()))) (n) (a2, a1.l, (a1.l.length : Int), 0, ((Ev.Val.mk a1.kind a1.n a1.s a1.l), ()), ()))
  else some (6, ()))))))

noncomputable def q25z : Nat → Ev.Val × Int × Unit → Option (Int × Unit)
  | 0, _ => none
  | n + 1, x => q25z_b (q25z n) n x

noncomputable def q24z (n : Nat) : Ev.Val × Unit → Option (Int × Unit) :=
  fun (a1, _) =>
  (q25z n ((Ev.Val.mk a1.kind a1.n a1.s a1.l), 1, ())).bind fun (y2, _) => some (y2, ())

noncomputable def q22z_s0 {ρ : Type} (n : Nat) (rec : (List Ev.Prp) × (List Ev.Prp) × Int × Int × Unit → Option ρ) (kx : Unit → Option ρ) (kr : Int × Unit → Option ρ) : (List Ev.Prp) × (List Ev.Prp) × Int × Int × Unit → Option ρ :=
  fun (v2, v3, v4, v5, _) =>
  (bif decide ((v5 : Int) < v4) then
  (ix v3 v5).bind fun x6 =>
  (q27z n (x6.name, ())).bind fun (y8, _) =>
  (bif !y8 then kr (6, ())
  else
  (bif decide ((v5 : Int) > 0) then
  (ix v2 (IntKind.wrap .i64 (v5 - 1))).bind fun x9 =>
  (bif (!(sless x9.name x6.name)) || ((x6.val.kind : Int) == 0) then kr (6, ())
  else
  (q24z n ((Ev.Val.mk x6.val.kind x6.val.n x6.val.s x6.val.l), ())).bind fun (y10, _) =>
  (bif (y10 : Int) != 0 then kr (y10, ())
  else rec (v2, v3, v4, IntKind.wrap .i64 (v5 + 1), ())))
  else
  (bif (x6.val.kind : Int) == 0 then kr (6, ())
  else
  (q24z n ((Ev.Val.mk x6.val.kind x6.val.n x6.val.s x6.val.l), ())).bind fun (y11, _) =>
  (bif (y11 : Int) != 0 then kr (y11, ())
  else rec (v2, v3, v4, IntKind.wrap .i64 (v5 + 1), ())))))
  else kx (()))

noncomputable def F_q22z_s0 {ρ : Type} (n : Nat) (kr : Int × Unit → Option ρ) : Int → Ev.Prp → ((List Ev.Prp) × Unit) → (((List Ev.Prp) × Unit) → Option ρ) → Option ρ :=
  fun v5 x6 (v2, _) rec =>
  (q27z n (x6.name, ())).bind fun (y8, _) =>
  (bif !y8 then kr (6, ())
  else
  (bif decide ((v5 : Int) > 0) then
  (ix v2 (IntKind.wrap .i64 (v5 - 1))).bind fun x9 =>
  (bif (!(sless x9.name x6.name)) || ((x6.val.kind : Int) == 0) then kr (6, ())
  else
  (q24z n ((Ev.Val.mk x6.val.kind x6.val.n x6.val.s x6.val.l), ())).bind fun (y10, _) =>
  (bif (y10 : Int) != 0 then kr (y10, ())
  else rec (v2, ())))
  else
  (bif (x6.val.kind : Int) == 0 then kr (6, ())
  else
  (q24z n ((Ev.Val.mk x6.val.kind x6.val.n x6.val.s x6.val.l), ())).bind fun (y11, _) =>
  (bif (y11 : Int) != 0 then kr (y11, ())
  else rec (v2, ())))))

theorem R_q22z_s0 {ρ : Type} (n : Nat) (kx : Unit → Option ρ) (kr : Int × Unit → Option ρ) (l : List Ev.Prp) (fuel : Nat) (v2 : List Ev.Prp) (hl : l.length ≤ 9223372036854775807) (hf : l.length < fuel) :
    iterN (fun rc => q22z_s0 n rc kx kr) fuel (v2, l, (l.length : Int), 0, ()) = foldK (F_q22z_s0 n kr) (fun (v2, _) => kx (())) 0 l (v2, ()) :=
  range_listM l (fun i (v2, _) => (v2, l, (l.length : Int), i, ())) _ _ _ (fun rec i s => rfl) hl fuel (v2, ()) hf

noncomputable def q22z (n : Nat) : (List Ev.Prp) × Unit → Option (Int × Unit) :=
  fun (a1, _) =>
  (bif decide (((a1.length : Int) : Int) > 6) then some (2, ())
  else
  iterN (fun rc13 => q22z_s0 n rc13 (fun (_) => some (0, ())) (fun (v12, _) => some (v12, ()))) (n) (a1, a1, (a1.length : Int), 0, ()))

noncomputable def q15z_s0 {ρ : Type} (n : Nat) (rec : Int × (List Int) × Int × Int × Unit → Option ρ) (kx : Int × Unit → Option ρ) (kr : Int × Unit → Option ρ) : Int × (List Int) × Int × Int × Unit → Option ρ :=
  fun (v2, v3, v4, v5, _) =>
  (bif decide ((v5 : Int) < v4) then
  (ix v3 v5).bind fun x6 =>
  (bif (x6 : Int) != v2 then kr (x6, ())
  else rec (v2, v3, v4, IntKind.wrap .i64 (v5 + 1), ()))
  else kx (v2, ()))

noncomputable def F_q15z_s0 {ρ : Type} (n : Nat) (kr : Int × Unit → Option ρ) : Int → Int → (Int × Unit) → ((Int × Unit) → Option ρ) → Option ρ :=
  fun v5 x6 (v2, _) rec =>
  (bif (x6 : Int) != v2 then kr (x6, ())
  else rec (v2, ()))

theorem R_q15z_s0 {ρ : Type} (n : Nat) (kx : Int × Unit → Option ρ) (kr : Int × Unit → Option ρ) (l : List Int) (fuel : Nat) (v2 : Int) (hl : l.length ≤ 9223372036854775807) (hf : l.length < fuel) :
    iterN (fun rc => q15z_s0 n rc kx kr) fuel (v2, l, (l.length : Int), 0, ()) = foldK (F_q15z_s0 n kr) (fun (v2, _) => kx (v2, ())) 0 l (v2, ()) :=
  range_listM l (fun i (v2, _) => (v2, l, (l.length : Int), i, ())) _ _ _ (fun rec i s => rfl) hl fuel (v2, ()) hf

noncomputable def q15z (n : Nat) : (List Int) × Unit → Option (Int × Unit) :=
  fun (a1, _) =>
  iterN (fun rc9 => q15z_s0 n rc9 (fun (v7, _) => some (v7, ())) (fun (v8, _) => some (v8, ()))) (n) (0, a1, (a1.length : Int), 0, ())

noncomputable def q17z : Int × Unit → Option (Bool × Unit) :=
  fun (a1, _) => some ((a1 : Int) != a1, ())

noncomputable def q16z : Int × Int × Unit → Option (Int × Unit) :=
  fun (a1, a2, _) =>
  (q17z (a1, ())).bind fun (y3, _) =>
  (q17z (a2, ())).bind fun (y4, _) =>
  (bif y3 then
  (bif y4 then some (0, ())
  else some ((-1), ()))
  else
  (bif y4 then some (1, ())
  else
  (bif decide ((a1 : Int) < a2) then some ((-1), ())
  else
  (bif decide ((a1 : Int) > a2) then some (1, ())
  else some (0, ())))))

noncomputable def q18z : Ev.Node × Int × Unit → Option (Int × Unit) :=
  fun (a1, a2, _) =>
  (q16z (a1.id, a2, ())).bind fun (y3, _) => some (y3, ())

noncomputable def q0z_s0 {ρ : Type} (n : Nat) (rec : (List Ev.Node) × Int × Int × Int × Int × Unit → Option ρ) (kx : (List Ev.Node) × Int × Int × Int × Unit → Option ρ) (kr : Unit → Option ρ) : (List Ev.Node) × Int × Int × Int × Int × Unit → Option ρ :=
  fun (v3, v4, v5, v6, v7, _) =>
  (bif decide ((v6 : Int) < v7) then
  (ix v3 (IntKind.wrap .i64 (bshr .u64 (IntKind.wrap .u64 (IntKind.wrap .i64 (v6 + v7))) 1))).bind fun x8 =>
  (q18z ((Ev.Node.mk x8.id x8.labels x8.props), v4, ())).bind fun (y9, _) =>
  (bif decide ((y9 : Int) < 0) then rec (v3, v4, v5, IntKind.wrap .i64 ((IntKind.wrap .i64 (bshr .u64 (IntKind.wrap .u64 (IntKind.wrap .i64 (v6 + v7))) 1)) + 1), v7, ())
  else rec (v3, v4, v5, v6, IntKind.wrap .i64 (bshr .u64 (IntKind.wrap .u64 (IntKind.wrap .i64 (v6 + v7))) 1), ()))
  else kx (v3, v4, v5, v6, ()))

noncomputable def q0z (n : Nat) : (List Ev.Node) × Int × Unit → Option (Int × Bool × Unit) :=
  fun (a1, a2, _) =>
  iterN (fun rc16 => q0z_s0 n rc16 (fun (v10, v11, v12, v13, _) =>
  (bif decide ((v13 : Int) < v12) then
  (ix v10 v13).bind fun x14 =>
  (q18z ((Ev.Node.mk x14.id x14.labels x14.props), v11, ())).bind fun (y15, _) => some (v13, (y15 : Int) == 0, ())
  else some (v13, false, ()))) (fun (_) => none)) (n) (a1, a2, (a1.length : Int), 0, (a1.length : Int), ())

noncomputable def q26z (n : Nat) : Ev.Graph × Int × Unit → Option (Int × Unit) :=
  fun (a1, a2, _) =>
  (q0z n (a1.nodes, a2, ())).bind fun (y3, y4, _) =>
  (bif !y4 then some ((-1), ())
  else some (y3, ()))

noncomputable def q21z_s0 {ρ : Type} (n : Nat) (rec : Int × (List Ev.Node) × Int × Int × (Ev.Graph × Unit) × Unit → Option ρ) (kx : Int × (Ev.Graph × Unit) × Unit → Option ρ) (kr : Int × Unit → Option ρ) : Int × (List Ev.Node) × Int × Int × (Ev.Graph × Unit) × Unit → Option ρ :=
  fun (v2, v3, v4, v5, o6, _) =>
  (bif decide ((v5 : Int) < v4) then
  (ix v3 v5).bind fun x7 =>
  (bif decide ((x7.id : Int) ≤ v2) then kr (6, ())
  else
  (q19z n (x7.labels, ())).bind fun (y8, _) =>
  (q22z n (x7.props, ())).bind fun (y9, _) =>
  (q15z n (([y8, y9] : List Int), ())).bind fun (y10, _) =>
  (bif (y10 : Int) != 0 then kr (y10, ())
  else rec (x7.id, v3, v4, IntKind.wrap .i64 (v5 + 1), ((Ev.Graph.mk o6.1.nodes o6.1.edges o6.1.next), ()), ())))
  else kx (v2, ((Ev.Graph.mk o6.1.nodes o6.1.edges o6.1.next), ()), ()))

noncomputable def q21z_s2 {ρ : Type} (n : Nat) (rec : Int × Int × (List Ev.Edg) × Int × Int × (Ev.Graph × Unit) × Unit → Option ρ) (kx : Int × Int × (Ev.Graph × Unit) × Unit → Option ρ) (kr : Int × Unit → Option ρ) : Int × Int × (List Ev.Edg) × Int × Int × (Ev.Graph × Unit) × Unit → Option ρ :=
  fun (v14, v15, v16, v17, v18, o19, _) =>
  (bif decide ((v18 : Int) < v17) then
  (ix v16 v18).bind fun x20 =>
  (bif decide ((x20.id : Int) ≤ v14) then kr (6, ())
  else
  (q26z n ((Ev.Graph.mk o19.1.nodes o19.1.edges o19.1.next), x20.id, ())).bind fun (y21, _) =>
  (bif decide ((y21 : Int) ≥ 0) then kr (6, ())
  else
  (q27z n (x20.type, ())).bind fun (y22, _) =>
  (bif !y22 then kr (6, ())
  else
  (q26z n ((Ev.Graph.mk o19.1.nodes o19.1.edges o19.1.next), x20.src, ())).bind fun (y23, _) =>
  (bif decide ((y23 : Int) < 0) then kr (5, ())
  else
  (q26z n ((Ev.Graph.mk o19.1.nodes o19.1.edges o19.1.next), x20.dst, ())).bind fun (y24, _) =>
  (bif decide ((y24 : Int) < 0) then kr (5, ())
  else
  (q22z n (x20.props, ())).bind fun (y25, _) =>
  (bif (y25 : Int) != 0 then kr (y25, ())
  else rec (x20.id, v15, v16, v17, IntKind.wrap .i64 (v18 + 1), ((Ev.Graph.mk o19.1.nodes o19.1.edges o19.1.next), ()), ())))))))
  else kx (v14, v15, ((Ev.Graph.mk o19.1.nodes o19.1.edges o19.1.next), ()), ()))

noncomputable def F_q21z_s0 {ρ : Type} (n : Nat) (kr : Int × Unit → Option ρ) : Int → Ev.Node → (Int × (Ev.Graph × Unit) × Unit) → ((Int × (Ev.Graph × Unit) × Unit) → Option ρ) → Option ρ :=
  fun v5 x7 (v2, o6, _) rec =>
  (bif decide ((x7.id : Int) ≤ v2) then kr (6, ())
  else
  (q19z n (x7.labels, ())).bind fun (y8, _) =>
  (q22z n (x7.props, ())).bind fun (y9, _) =>
  (q15z n (([y8, y9] : List Int), ())).bind fun (y10, _) =>
  (bif (y10 : Int) != 0 then kr (y10, ())
  else rec (x7.id, ((Ev.Graph.mk o6.1.nodes o6.1.edges o6.1.next), ()), ())))

theorem R_q21z_s0 {ρ : Type} (n : Nat) (kx : Int × (Ev.Graph × Unit) × Unit → Option ρ) (kr : Int × Unit → Option ρ) (l : List Ev.Node) (fuel : Nat) (v2 : Int) (o6 : Ev.Graph × Unit) (hl : l.length ≤ 9223372036854775807) (hf : l.length < fuel) :
    iterN (fun rc => q21z_s0 n rc kx kr) fuel (v2, l, (l.length : Int), 0, o6, ()) = foldK (F_q21z_s0 n kr) (fun (v2, o6, _) => kx (v2, ((Ev.Graph.mk o6.1.nodes o6.1.edges o6.1.next), ()), ())) 0 l (v2, o6, ()) :=
  range_listM l (fun i (v2, o6, _) => (v2, l, (l.length : Int), i, o6, ())) _ _ _ (fun rec i s => rfl) hl fuel (v2, o6, ()) hf

noncomputable def F_q21z_s2 {ρ : Type} (n : Nat) (kr : Int × Unit → Option ρ) : Int → Ev.Edg → (Int × Int × (Ev.Graph × Unit) × Unit) → ((Int × Int × (Ev.Graph × Unit) × Unit) → Option ρ) → Option ρ :=
  fun v18 x20 (v14, v15, o19, _) rec =>
  (bif decide ((x20.id : Int) ≤ v14) then kr (6, ())
  else
  (q26z n ((Ev.Graph.mk o19.1.nodes o19.1.edges o19.1.next), x20.id, ())).bind fun (y21, _) =>
  (bif decide ((y21 : Int) ≥ 0) then kr (6, ())
  else
  (q27z n (x20.type, ())).bind fun (y22, _) =>
  (bif !y22 then kr (6, ())
  else
  (q26z n ((Ev.Graph.mk o19.1.nodes o19.1.edges o19.1.next), x20.src, ())).bind fun (y23, _) =>
  (bif decide ((y23 : Int) < 0) then kr (5, ())
  else
  (q26z n ((Ev.Graph.mk o19.1.nodes o19.1.edges o19.1.next), x20.dst, ())).bind fun (y24, _) =>
  (bif decide ((y24 : Int) < 0) then kr (5, ())
  else
  (q22z n (x20.props, ())).bind fun (y25, _) =>
  (bif (y25 : Int) != 0 then kr (y25, ())
  else rec (x20.id, v15, ((Ev.Graph.mk o19.1.nodes o19.1.edges o19.1.next), ()), ())))))))

theorem R_q21z_s2 {ρ : Type} (n : Nat) (kx : Int × Int × (Ev.Graph × Unit) × Unit → Option ρ) (kr : Int × Unit → Option ρ) (l : List Ev.Edg) (fuel : Nat) (v14 : Int) (v15 : Int) (o19 : Ev.Graph × Unit) (hl : l.length ≤ 9223372036854775807) (hf : l.length < fuel) :
    iterN (fun rc => q21z_s2 n rc kx kr) fuel (v14, v15, l, (l.length : Int), 0, o19, ()) = foldK (F_q21z_s2 n kr) (fun (v14, v15, o19, _) => kx (v14, v15, ((Ev.Graph.mk o19.1.nodes o19.1.edges o19.1.next), ()), ())) 0 l (v14, v15, o19, ()) :=
  range_listM l (fun i (v14, v15, o19, _) => (v14, v15, l, (l.length : Int), i, o19, ())) _ _ _ (fun rec i s => rfl) hl fuel (v14, v15, o19, ()) hf

noncomputable def q21z (n : Nat) : Ev.Graph × Unit → Option (Int × Unit) :=
  fun (a1, _) =>
  (bif (decide (((a1.nodes.length : Int) : Int) > 40)) || (decide (((a1.edges.length : Int) : Int) > 60)) then some (2, ())
  else
  iterN (fun rc31 => q21z_s0 n rc31 (fun (v11, o12, _) =>
  iterN (fun rc30 => q21z_s2 n rc30 (fun (v26, v27, o28, _) =>
  (bif (decide ((o28.1.next : Int) ≤ (if v26 > v27 then v26 else v27))) || (decide ((o28.1.next : Int) > 1099511627776)) then some (9, ())
  else some (0, ()))) (fun (v29, _) => some (v29, ()))) (n) (0, v11, o12.1.edges, (o12.1.edges.length : Int), 0, ((Ev.Graph.mk o12.1.nodes o12.1.edges o12.1.next), ()), ())) (fun (v13, _) => some (v13, ()))) (n) (0, a1.nodes, (a1.nodes.length : Int), 0, ((Ev.Graph.mk a1.nodes a1.edges a1.next), ()), ()))

noncomputable def q28z_s2 {ρ : Type} (n : Nat) (rec : ByteArray × Int × Int × Int × Bool × (List Ev.Edg) × Int × Int × (Ev.Graph × Unit) × (List (Int × Int)) × Unit → Option ρ) (kx : ByteArray × Int × Int × Int × Bool × (Ev.Graph × Unit) × (List (Int × Int)) × Unit → Option ρ) (kr : Unit → Option ρ) : ByteArray × Int × Int × Int × Bool × (List Ev.Edg) × Int × Int × (Ev.Graph × Unit) × (List (Int × Int)) × Unit → Option ρ :=
  fun (v15, v16, v17, v18, v19, v20, v21, v22, o23, o24, _) =>
  (bif decide ((v22 : Int) < v21) then
  (ix v20 v22).bind fun x25 =>
  (bif (!(seq v15 (⟨#[]⟩ : ByteArray))) && (!(seq x25.type v15)) then rec (v15, v16, v17, v18, v19, v20, v21, IntKind.wrap .i64 (v22 + 1), ((Ev.Graph.mk o23.1.nodes o23.1.edges o23.1.next), ()), o24, ())
  else
  (bif (mpHas .i64 .i64 o24 x25.dst) && (((mpGet .i64 .i64 0 o24 x25.dst) : Int) == v18) then
  (bif !(mpHas .i64 .i64 o24 x25.src) then rec (v15, v16, v17, v18, true, v20, v21, IntKind.wrap .i64 (v22 + 1), ((Ev.Graph.mk o23.1.nodes o23.1.edges o23.1.next), ()), mpPut .i64 .i64 o24 x25.src (IntKind.wrap .i64 (v18 + 1)), ())
  else rec (v15, v16, v17, v18, v19, v20, v21, IntKind.wrap .i64 (v22 + 1), ((Ev.Graph.mk o23.1.nodes o23.1.edges o23.1.next), ()), o24, ()))
  else rec (v15, v16, v17, v18, v19, v20, v21, IntKind.wrap .i64 (v22 + 1), ((Ev.Graph.mk o23.1.nodes o23.1.edges o23.1.next), ()), o24, ())))
  else kx (v15, v16, v17, v18, v19, ((Ev.Graph.mk o23.1.nodes o23.1.edges o23.1.next), ()), o24, ()))

noncomputable def q28z_s0 {ρ : Type} (n : Nat) (rec : ByteArray × Int × Int × Int × Bool × (Ev.Graph × Unit) × (List (Int × Int)) × Unit → Option ρ) (kx : ByteArray × Int × Int × (Ev.Graph × Unit) × (List (Int × Int)) × Unit → Option ρ) (kr : Unit → Option ρ) : ByteArray × Int × Int × Int × Bool × (Ev.Graph × Unit) × (List (Int × Int)) × Unit → Option ρ :=
  fun (v8, v9, v10, v11, v12, o13, o14, _) =>
  (bif v12 then
  iterN (fun rc33 => q28z_s2 n rc33 (fun (v26, v27, v28, v29, v30, o31, o32, _) => rec (v26, v27, v28, IntKind.wrap .i64 (v29 + 1), v30, ((Ev.Graph.mk o31.1.nodes o31.1.edges o31.1.next), ()), o32, ())) (fun (_) => none)) (n) (v8, v9, v10, v11, false, o13.1.edges, (o13.1.edges.length : Int), 0, ((Ev.Graph.mk o13.1.nodes o13.1.edges o13.1.next), ()), o14, ())
  else kx (v8, v9, v10, ((Ev.Graph.mk o13.1.nodes o13.1.edges o13.1.next), ()), o14, ()))

noncomputable def q28z_s6 {ρ : Type} (n : Nat) (rec : ByteArray × Int × Int × Int × (List Ev.Edg) × Int × Int × (Ev.Graph × Unit) × (List Int) × (List (Int × Int)) × Unit → Option ρ) (kx : ByteArray × Int × Int × (Ev.Graph × Unit) × (List Int) × (List (Int × Int)) × Unit → Option ρ) (kr : Unit → Option ρ) : ByteArray × Int × Int × Int × (List Ev.Edg) × Int × Int × (Ev.Graph × Unit) × (List Int) × (List (Int × Int)) × Unit → Option ρ :=
  fun (v45, v46, v47, v48, v49, v50, v51, o52, o53, o54, _) =>
  (bif decide ((v51 : Int) < v50) then
  (ix v49 v51).bind fun x55 =>
  (bif (((x55.src : Int) == v47) && (mpHas .i64 .i64 o54 x55.dst)) && ((seq v45 (⟨#[]⟩ : ByteArray)) || (seq x55.type v45)) then
  (bif decide ((v48 : Int) < 0) then rec (v45, v46, v47, v51, v49, v50, IntKind.wrap .i64 (v51 + 1), ((Ev.Graph.mk o52.1.nodes o52.1.edges o52.1.next), ()), o53, o54, ())
  else
  (ix o52.1.edges v48).bind fun x56 =>
  (bif decide (((mpGet .i64 .i64 0 o54 x55.dst) : Int) < (mpGet .i64 .i64 0 o54 x56.dst)) then rec (v45, v46, v47, v51, v49, v50, IntKind.wrap .i64 (v51 + 1), ((Ev.Graph.mk o52.1.nodes o52.1.edges o52.1.next), ()), o53, o54, ())
  else rec (v45, v46, v47, v48, v49, v50, IntKind.wrap .i64 (v51 + 1), ((Ev.Graph.mk o52.1.nodes o52.1.edges o52.1.next), ()), o53, o54, ())))
  else rec (v45, v46, v47, v48, v49, v50, IntKind.wrap .i64 (v51 + 1), ((Ev.Graph.mk o52.1.nodes o52.1.edges o52.1.next), ()), o53, o54, ()))
  else kx (v45, v46, v48, ((Ev.Graph.mk o52.1.nodes o52.1.edges o52.1.next), ()), o53, o54, ()))

noncomputable def q28z_s4 {ρ : Type} (n : Nat) (rec : ByteArray × Int × Int × (Ev.Graph × Unit) × (List Int) × (List (Int × Int)) × Unit → Option ρ) (kx : (List Int) × Unit → Option ρ) (kr : (List Int) × Int × Unit → Option ρ) : ByteArray × Int × Int × (Ev.Graph × Unit) × (List Int) × (List (Int × Int)) × Unit → Option ρ :=
  fun (v39, v40, v41, o42, o43, o44, _) =>
  (bif (((o43.length : Int) : Int) == 0) || ((v41 : Int) != v40) then
  iterN (fun rc65 => q28z_s6 n rc65 (fun (v57, v58, v59, o60, o61, o62, _) =>
  (bif decide ((v59 : Int) < 0) then kr (([] : List Int), 5, ())
  else
  (ix o60.1.edges v59).bind fun x63 =>
  ck (room (o61 ++ ([x63.id] : List Int)).length 8) (
  (ix o60.1.edges v59).bind fun x64 => rec (v57, v58, x64.dst, ((Ev.Graph.mk o60.1.nodes o60.1.edges o60.1.next), ()), o61 ++ ([x63.id] : List Int), o62, ())))) (fun (_) => none)) (n) (v39, v40, v41, (-1), o42.1.edges, (o42.1.edges.length : Int), 0, ((Ev.Graph.mk o42.1.nodes o42.1.edges o42.1.next), ()), o43, o44, ())
  else kx (o43, ()))

noncomputable def F_q28z_s2 {ρ : Type} (n : Nat) (kr : Unit → Option ρ) : Int → Ev.Edg → (ByteArray × Int × Int × Int × Bool × (Ev.Graph × Unit) × (List (Int × Int)) × Unit) → ((ByteArray × Int × Int × Int × Bool × (Ev.Graph × Unit) × (List (Int × Int)) × Unit) → Option ρ) → Option ρ :=
  fun v22 x25 (v15, v16, v17, v18, v19, o23, o24, _) rec =>
  (bif (!(seq v15 (⟨#[]⟩ : ByteArray))) && (!(seq x25.type v15)) then rec (v15, v16, v17, v18, v19, ((Ev.Graph.mk o23.1.nodes o23.1.edges o23.1.next), ()), o24, ())
  else
  (bif (mpHas .i64 .i64 o24 x25.dst) && (((mpGet .i64 .i64 0 o24 x25.dst) : Int) == v18) then
  (bif !(mpHas .i64 .i64 o24 x25.src) then rec (v15, v16, v17, v18, true, ((Ev.Graph.mk o23.1.nodes o23.1.edges o23.1.next), ()), mpPut .i64 .i64 o24 x25.src (IntKind.wrap .i64 (v18 + 1)), ())
  else rec (v15, v16, v17, v18, v19, ((Ev.Graph.mk o23.1.nodes o23.1.edges o23.1.next), ()), o24, ()))
  else rec (v15, v16, v17, v18, v19, ((Ev.Graph.mk o23.1.nodes o23.1.edges o23.1.next), ()), o24, ())))

theorem R_q28z_s2 {ρ : Type} (n : Nat) (kx : ByteArray × Int × Int × Int × Bool × (Ev.Graph × Unit) × (List (Int × Int)) × Unit → Option ρ) (kr : Unit → Option ρ) (l : List Ev.Edg) (fuel : Nat) (v15 : ByteArray) (v16 : Int) (v17 : Int) (v18 : Int) (v19 : Bool) (o23 : Ev.Graph × Unit) (o24 : List (Int × Int)) (hl : l.length ≤ 9223372036854775807) (hf : l.length < fuel) :
    iterN (fun rc => q28z_s2 n rc kx kr) fuel (v15, v16, v17, v18, v19, l, (l.length : Int), 0, o23, o24, ()) = foldK (F_q28z_s2 n kr) (fun (v15, v16, v17, v18, v19, o23, o24, _) => kx (v15, v16, v17, v18, v19, ((Ev.Graph.mk o23.1.nodes o23.1.edges o23.1.next), ()), o24, ())) 0 l (v15, v16, v17, v18, v19, o23, o24, ()) :=
  range_listM l (fun i (v15, v16, v17, v18, v19, o23, o24, _) => (v15, v16, v17, v18, v19, l, (l.length : Int), i, o23, o24, ())) _ _ _ (fun rec i s => rfl) hl fuel (v15, v16, v17, v18, v19, o23, o24, ()) hf

noncomputable def F_q28z_s6 {ρ : Type} (n : Nat) (kr : Unit → Option ρ) : Int → Ev.Edg → (ByteArray × Int × Int × Int × (Ev.Graph × Unit) × (List Int) × (List (Int × Int)) × Unit) → ((ByteArray × Int × Int × Int × (Ev.Graph × Unit) × (List Int) × (List (Int × Int)) × Unit) → Option ρ) → Option ρ :=
  fun v51 x55 (v45, v46, v47, v48, o52, o53, o54, _) rec =>
  (bif (((x55.src : Int) == v47) && (mpHas .i64 .i64 o54 x55.dst)) && ((seq v45 (⟨#[]⟩ : ByteArray)) || (seq x55.type v45)) then
  (bif decide ((v48 : Int) < 0) then rec (v45, v46, v47, v51, ((Ev.Graph.mk o52.1.nodes o52.1.edges o52.1.next), ()), o53, o54, ())
  else
  (ix o52.1.edges v48).bind fun x56 =>
  (bif decide (((mpGet .i64 .i64 0 o54 x55.dst) : Int) < (mpGet .i64 .i64 0 o54 x56.dst)) then rec (v45, v46, v47, v51, ((Ev.Graph.mk o52.1.nodes o52.1.edges o52.1.next), ()), o53, o54, ())
  else rec (v45, v46, v47, v48, ((Ev.Graph.mk o52.1.nodes o52.1.edges o52.1.next), ()), o53, o54, ())))
  else rec (v45, v46, v47, v48, ((Ev.Graph.mk o52.1.nodes o52.1.edges o52.1.next), ()), o53, o54, ()))

theorem R_q28z_s6 {ρ : Type} (n : Nat) (kx : ByteArray × Int × Int × (Ev.Graph × Unit) × (List Int) × (List (Int × Int)) × Unit → Option ρ) (kr : Unit → Option ρ) (l : List Ev.Edg) (fuel : Nat) (v45 : ByteArray) (v46 : Int) (v47 : Int) (v48 : Int) (o52 : Ev.Graph × Unit) (o53 : List Int) (o54 : List (Int × Int)) (hl : l.length ≤ 9223372036854775807) (hf : l.length < fuel) :
    iterN (fun rc => q28z_s6 n rc kx kr) fuel (v45, v46, v47, v48, l, (l.length : Int), 0, o52, o53, o54, ()) = foldK (F_q28z_s6 n kr) (fun (v45, v46, v47, v48, o52, o53, o54, _) => kx (v45, v46, v48, ((Ev.Graph.mk o52.1.nodes o52.1.edges o52.1.next), ()), o53, o54, ())) 0 l (v45, v46, v47, v48, o52, o53, o54, ()) :=
  range_listM l (fun i (v45, v46, v47, v48, o52, o53, o54, _) => (v45, v46, v47, v48, l, (l.length : Int), i, o52, o53, o54, ())) _ _ _ (fun rec i s => rfl) hl fuel (v45, v46, v47, v48, o52, o53, o54, ()) hf

noncomputable def q28z (n : Nat) : Ev.Graph × ByteArray × Int × Int × Unit → Option ((List Int) × Int × Unit) :=
  fun (a1, a2, a3, a4, _) =>
  (q21z n ((Ev.Graph.mk a1.nodes a1.edges a1.next), ())).bind fun (y5, _) =>
  (bif (y5 : Int) != 0 then some (([] : List Int), y5, ())
  else
  (q26z n ((Ev.Graph.mk a1.nodes a1.edges a1.next), a3, ())).bind fun (y6, _) =>
  (bif decide ((y6 : Int) < 0) then some (([] : List Int), 5, ())
  else
  (q26z n ((Ev.Graph.mk a1.nodes a1.edges a1.next), a4, ())).bind fun (y7, _) =>
  (bif decide ((y7 : Int) < 0) then some (([] : List Int), 5, ())
  else
  iterN (fun rc70 => q28z_s0 n rc70 (fun (v34, v35, v36, o37, o38, _) =>
  iterN (fun rc69 => q28z_s4 n rc69 (fun (o66, _) => some (o66, 0, ())) (fun (v67, v68, _) => some (v67, v68, ()))) (n) (v34, v36, v35, ((Ev.Graph.mk o37.1.nodes o37.1.edges o37.1.next), ()), ([] : List Int), o38, ())) (fun (_) => none)) (n) (a2, a3, a4, 0, true, ((Ev.Graph.mk a1.nodes a1.edges a1.next), ()), mpPut .i64 .i64 ([] : List (Int × Int)) a4 0, ()))))

noncomputable def q12z : ByteArray × Unit → Option (Bool × Unit) :=
  fun (a1, _) =>
  (bif (seq a1 (⟨#[]⟩ : ByteArray)) || (decide (((a1.size : Int) : Int) > 12)) then some (false, ())
  else
  (sat a1 0).bind fun c2 =>
  (bif decide ((c2 : Int) ≥ 48) then
  (sat a1 0).bind fun c3 =>
  (bif decide ((c3 : Int) ≤ 57) then some (false, ())
  else
  (trimN (a1, (⟨#[97, 98, 99, 100, 101, 102, 103, 104, 105, 106, 107, 108, 109, 110, 111, 112, 113, 114, 115, 116, 117, 118, 119, 120, 121, 122, 65, 66, 67, 68, 69, 70, 71, 72, 73, 74, 75, 76, 77, 78, 79, 80, 81, 82, 83, 84, 85, 86, 87, 88, 89, 90, 48, 49, 50, 51, 52, 53, 54, 55, 56, 57, 95]⟩ : ByteArray), ())).bind fun (y4, _) => some (seq y4 (⟨#[]⟩ : ByteArray), ()))
  else
  (trimN (a1, (⟨#[97, 98, 99, 100, 101, 102, 103, 104, 105, 106, 107, 108, 109, 110, 111, 112, 113, 114, 115, 116, 117, 118, 119, 120, 121, 122, 65, 66, 67, 68, 69, 70, 71, 72, 73, 74, 75, 76, 77, 78, 79, 80, 81, 82, 83, 84, 85, 86, 87, 88, 89, 90, 48, 49, 50, 51, 52, 53, 54, 55, 56, 57, 95]⟩ : ByteArray), ())).bind fun (y5, _) => some (seq y5 (⟨#[]⟩ : ByteArray), ())))

noncomputable def q3z_s0 {ρ : Type} (n : Nat) (rec : ByteArray × (List ByteArray) × Int × Int × Unit → Option ρ) (kx : Unit → Option ρ) (kr : Int × Unit → Option ρ) : ByteArray × (List ByteArray) × Int × Int × Unit → Option ρ :=
  fun (v2, v3, v4, v5, _) =>
  (bif decide ((v5 : Int) < v4) then
  (ix v3 v5).bind fun x6 =>
  (q12z (x6, ())).bind fun (y7, _) =>
  (bif (!y7) || (sless x6 v2 || seq x6 v2) then kr (6, ())
  else rec (x6, v3, v4, IntKind.wrap .i64 (v5 + 1), ()))
  else kx (()))

noncomputable def F_q3z_s0 {ρ : Type} (n : Nat) (kr : Int × Unit → Option ρ) : Int → ByteArray → (ByteArray × Unit) → ((ByteArray × Unit) → Option ρ) → Option ρ :=
  fun v5 x6 (v2, _) rec =>
  (q12z (x6, ())).bind fun (y7, _) =>
  (bif (!y7) || (sless x6 v2 || seq x6 v2) then kr (6, ())
  else rec (x6, ()))

theorem R_q3z_s0 {ρ : Type} (n : Nat) (kx : Unit → Option ρ) (kr : Int × Unit → Option ρ) (l : List ByteArray) (fuel : Nat) (v2 : ByteArray) (hl : l.length ≤ 9223372036854775807) (hf : l.length < fuel) :
    iterN (fun rc => q3z_s0 n rc kx kr) fuel (v2, l, (l.length : Int), 0, ()) = foldK (F_q3z_s0 n kr) (fun (v2, _) => kx (())) 0 l (v2, ()) :=
  range_listM l (fun i (v2, _) => (v2, l, (l.length : Int), i, ())) _ _ _ (fun rec i s => rfl) hl fuel (v2, ()) hf

noncomputable def q3z (n : Nat) : (List ByteArray) × Unit → Option (Int × Unit) :=
  fun (a1, _) =>
  (bif decide (((a1.length : Int) : Int) > 4) then some (2, ())
  else
  iterN (fun rc9 => q3z_s0 n rc9 (fun (_) => some (0, ())) (fun (v8, _) => some (v8, ()))) (n) ((⟨#[]⟩ : ByteArray), a1, (a1.length : Int), 0, ()))

noncomputable def q6z_s1 {ρ : Type} (self_q6z : Ev.Val × Int × Unit → Option (Int × Unit)) (n : Nat) (rec : Int × Bool × Bool × (List Ev.Val) × Int × Int × Unit → Option ρ) (kx : Bool × Bool × Unit → Option ρ) (kr : Int × Unit → Option ρ) : Int × Bool × Bool × (List Ev.Val) × Int × Int × Unit → Option ρ :=
  fun (v3, v4, v5, v6, v7, v8, _) =>
  (bif decide ((v8 : Int) < v7) then
  (ix v6 v8).bind fun x9 =>
  (self_q6z ((Ev.Val.mk x9.kind x9.n x9.s x9.l), IntKind.wrap .i64 (v3 + 1), ())).bind fun (y10, _) =>
  (bif (y10 : Int) != 0 then kr (y10, ())
  else rec (v3, v4, v5, v6, v7, IntKind.wrap .i64 (v8 + 1), ()))
  else kx (v4, v5, ()))

noncomputable def F_q6z_s1 {ρ : Type} (self_q6z : Ev.Val × Int × Unit → Option (Int × Unit)) (n : Nat) (kr : Int × Unit → Option ρ) : Int → Ev.Val → (Int × Bool × Bool × Unit) → ((Int × Bool × Bool × Unit) → Option ρ) → Option ρ :=
  fun v8 x9 (v3, v4, v5, _) rec =>
  (self_q6z ((Ev.Val.mk x9.kind x9.n x9.s x9.l), IntKind.wrap .i64 (v3 + 1), ())).bind fun (y10, _) =>
  (bif (y10 : Int) != 0 then kr (y10, ())
  else rec (v3, v4, v5, ()))

theorem R_q6z_s1 {ρ : Type} (self_q6z : Ev.Val × Int × Unit → Option (Int × Unit)) (n : Nat) (kx : Bool × Bool × Unit → Option ρ) (kr : Int × Unit → Option ρ) (l : List Ev.Val) (fuel : Nat) (v3 : Int) (v4 : Bool) (v5 : Bool) (hl : l.length ≤ 9223372036854775807) (hf : l.length < fuel) :
    iterN (fun rc => q6z_s1 self_q6z n rc kx kr) fuel (v3, v4, v5, l, (l.length : Int), 0, ()) = foldK (F_q6z_s1 self_q6z n kr) (fun (v3, v4, v5, _) => kx (v4, v5, ())) 0 l (v3, v4, v5, ()) :=
  range_listM l (fun i (v3, v4, v5, _) => (v3, v4, v5, l, (l.length : Int), i, ())) _ _ _ (fun rec i s => rfl) hl fuel (v3, v4, v5, ()) hf

noncomputable def q6z_b (self_q6z : Ev.Val × Int × Unit → Option (Int × Unit)) (n : Nat) : Ev.Val × Int × Unit → Option (Int × Unit) :=
  fun (a1, a2, _) =>
  (bif (a1.kind : Int) == 4 then
  (bif (decide (((a1.l.length : Int) : Int) > 30)) || (decide ((a2 : Int) > 6)) then some (2, ())
  else
  iterN (fun rc14 => q6z_s1 self_q6z n rc14 (fun (v11, v12, _) =>
  (bif v11 && v12 then some (0, ())
  else some (6, ()))) (fun (v13, _) => some (v13, ()))) (n) (a2, (a1.n : Int) == 0, seq a1.s (⟨#[]⟩ : ByteArray), a1.l, (a1.l.length : Int), 0, ()))
  else
  (bif (a1.kind : Int) == 3 then
  (bif decide (((a1.s.size : Int) : Int) > 4000) then some (2, ())
  else
  (bif ((a1.n : Int) == 0) && (((a1.l.length : Int) : Int) == 0) then
  (validN (a1.s, ())).bind fun (y15, _) =>
  (bif y15 then some (0, ())
  else some (6, ()))
  else some (6, ())))
  else
  (bif (a1.kind : Int) == 0 then
  (bif (((a1.n : Int) == 0) && (seq a1.s (⟨#[]⟩ : ByteArray))) && (((a1.l.length : Int) : Int) == 0) then some (0, ())
  else some (6, ()))
  else
  (bif (a1.kind : Int) == 1 then
  (bif ((((a1.n : Int) == 0) || ((a1.n : Int) == 1)) && (seq a1.s (⟨#[]⟩ : ByteArray))) && (((a1.l.length : Int) : Int) == 0) then some (0, ())
  else some (6, ()))
  else
  (bif (a1.kind : Int) == 2 then
  (bif (seq a1.s (⟨#[]⟩ : ByteArray)) && (((a1.l.length : Int) : Int) == 0) then some (0, ())
  else some (6, ()))
  else some (6, ()))))))

noncomputable def q6z : Nat → Ev.Val × Int × Unit → Option (Int × Unit)
  | 0, _ => none
  | n + 1, x => q6z_b (q6z n) n x

noncomputable def q5z_s0 {ρ : Type} (n : Nat) (rec : ByteArray × (List Ev.Prp) × Int × Int × Unit → Option ρ) (kx : Unit → Option ρ) (kr : Int × Unit → Option ρ) : ByteArray × (List Ev.Prp) × Int × Int × Unit → Option ρ :=
  fun (v2, v3, v4, v5, _) =>
  (bif decide ((v5 : Int) < v4) then
  (ix v3 v5).bind fun x6 =>
  (q12z (x6.name, ())).bind fun (y7, _) =>
  (bif ((!y7) || (sless x6.name v2 || seq x6.name v2)) || ((x6.val.kind : Int) == 0) then kr (6, ())
  else
  (q6z n ((Ev.Val.mk x6.val.kind x6.val.n x6.val.s x6.val.l), 1, ())).bind fun (y8, _) =>
  (bif (y8 : Int) != 0 then kr (y8, ())
  else rec (x6.name, v3, v4, IntKind.wrap .i64 (v5 + 1), ())))
  else kx (()))

noncomputable def F_q5z_s0 {ρ : Type} (n : Nat) (kr : Int × Unit → Option ρ) : Int → Ev.Prp → (ByteArray × Unit) → ((ByteArray × Unit) → Option ρ) → Option ρ :=
  fun v5 x6 (v2, _) rec =>
  (q12z (x6.name, ())).bind fun (y7, _) =>
  (bif ((!y7) || (sless x6.name v2 || seq x6.name v2)) || ((x6.val.kind : Int) == 0) then kr (6, ())
  else
  (q6z n ((Ev.Val.mk x6.val.kind x6.val.n x6.val.s x6.val.l), 1, ())).bind fun (y8, _) =>
  (bif (y8 : Int) != 0 then kr (y8, ())
  else rec (x6.name, ())))

theorem R_q5z_s0 {ρ : Type} (n : Nat) (kx : Unit → Option ρ) (kr : Int × Unit → Option ρ) (l : List Ev.Prp) (fuel : Nat) (v2 : ByteArray) (hl : l.length ≤ 9223372036854775807) (hf : l.length < fuel) :
    iterN (fun rc => q5z_s0 n rc kx kr) fuel (v2, l, (l.length : Int), 0, ()) = foldK (F_q5z_s0 n kr) (fun (v2, _) => kx (())) 0 l (v2, ()) :=
  range_listM l (fun i (v2, _) => (v2, l, (l.length : Int), i, ())) _ _ _ (fun rec i s => rfl) hl fuel (v2, ()) hf

noncomputable def q5z (n : Nat) : (List Ev.Prp) × Unit → Option (Int × Unit) :=
  fun (a1, _) =>
  (bif decide (((a1.length : Int) : Int) > 6) then some (2, ())
  else
  iterN (fun rc10 => q5z_s0 n rc10 (fun (_) => some (0, ())) (fun (v9, _) => some (v9, ()))) (n) ((⟨#[]⟩ : ByteArray), a1, (a1.length : Int), 0, ()))

noncomputable def q13z_s0 {ρ : Type} (n : Nat) (rec : Int × Int × Int × (Ev.Graph × Unit) × Unit → Option ρ) (kx : Unit → Option ρ) (kr : Ev.Node × Unit → Option ρ) : Int × Int × Int × (Ev.Graph × Unit) × Unit → Option ρ :=
  fun (v3, v4, v5, o6, _) =>
  (bif decide ((v5 : Int) < v4) then
  (ix o6.1.nodes v5).bind fun x7 =>
  (bif (x7.id : Int) == v3 then
  (ix o6.1.nodes v5).bind fun x8 => kr ((Ev.Node.mk x8.id x8.labels x8.props), ())
  else rec (v3, v4, IntKind.wrap .i64 (v5 + 1), ((Ev.Graph.mk o6.1.nodes o6.1.edges o6.1.next), ()), ()))
  else kx (()))

noncomputable def q13z (n : Nat) : Ev.Graph × Int × Unit → Option ((Option Ev.Node) × Unit) :=
  fun (a1, a2, _) =>
  iterN (fun rc10 => q13z_s0 n rc10 (fun (_) => some (none, ())) (fun (v9, _) => some (some (Ev.Node.mk v9.id v9.labels v9.props), ()))) (n) (a2, (a1.nodes.length : Int), 0, ((Ev.Graph.mk a1.nodes a1.edges a1.next), ()), ())

noncomputable def q4z_s0 {ρ : Type} (n : Nat) (rec : Int × Int × (List Ev.Node) × Int × Int × (Ev.Graph × Unit) × Unit → Option ρ) (kx : Int × (Ev.Graph × Unit) × Unit → Option ρ) (kr : Int × Unit → Option ρ) : Int × Int × (List Ev.Node) × Int × Int × (Ev.Graph × Unit) × Unit → Option ρ :=
  fun (v2, v3, v4, v5, v6, o7, _) =>
  (bif decide ((v6 : Int) < v5) then
  (ix v4 v6).bind fun x8 =>
  (bif decide ((x8.id : Int) ≤ v3) then kr (6, ())
  else
  (q3z n (x8.labels, ())).bind fun (y9, _) =>
  (bif (y9 : Int) != 0 then kr (y9, ())
  else
  (q5z n (x8.props, ())).bind fun (y10, _) =>
  (bif (y10 : Int) != 0 then kr (y10, ())
  else rec (x8.id, x8.id, v4, v5, IntKind.wrap .i64 (v6 + 1), ((Ev.Graph.mk o7.1.nodes o7.1.edges o7.1.next), ()), ()))))
  else kx (v2, ((Ev.Graph.mk o7.1.nodes o7.1.edges o7.1.next), ()), ()))

noncomputable def q4z_s2 {ρ : Type} (n : Nat) (rec : Int × Int × (List Ev.Edg) × Int × Int × (Ev.Graph × Unit) × Unit → Option ρ) (kx : Int × (Ev.Graph × Unit) × Unit → Option ρ) (kr : Int × Unit → Option ρ) : Int × Int × (List Ev.Edg) × Int × Int × (Ev.Graph × Unit) × Unit → Option ρ :=
  fun (v14, v15, v16, v17, v18, o19, _) =>
  (bif decide ((v18 : Int) < v17) then
  (ix v16 v18).bind fun x20 =>
  (bif decide ((x20.id : Int) ≤ v15) then kr (6, ())
  else
  (q13z n ((Ev.Graph.mk o19.1.nodes o19.1.edges o19.1.next), x20.id, ())).bind fun (y21, _) =>
  optC y21 (
  (q12z (x20.type, ())).bind fun (y23, _) =>
  (bif !y23 then kr (6, ())
  else
  (q13z n ((Ev.Graph.mk o19.1.nodes o19.1.edges o19.1.next), x20.src, ())).bind fun (y24, _) =>
  optC y24 (kr (5, ())) (fun z25 =>
  (q13z n ((Ev.Graph.mk o19.1.nodes o19.1.edges o19.1.next), x20.dst, ())).bind fun (y26, _) =>
  optC y26 (kr (5, ())) (fun z27 =>
  (q5z n (x20.props, ())).bind fun (y28, _) =>
  (bif (y28 : Int) != 0 then kr (y28, ())
  else rec ((if x20.id > v14 then x20.id else v14), x20.id, v16, v17, IntKind.wrap .i64 (v18 + 1), ((Ev.Graph.mk o19.1.nodes o19.1.edges o19.1.next), ()), ())))))) (fun z22 => kr (6, ())))
  else kx (v14, ((Ev.Graph.mk o19.1.nodes o19.1.edges o19.1.next), ()), ()))

noncomputable def F_q4z_s0 {ρ : Type} (n : Nat) (kr : Int × Unit → Option ρ) : Int → Ev.Node → (Int × Int × (Ev.Graph × Unit) × Unit) → ((Int × Int × (Ev.Graph × Unit) × Unit) → Option ρ) → Option ρ :=
  fun v6 x8 (v2, v3, o7, _) rec =>
  (bif decide ((x8.id : Int) ≤ v3) then kr (6, ())
  else
  (q3z n (x8.labels, ())).bind fun (y9, _) =>
  (bif (y9 : Int) != 0 then kr (y9, ())
  else
  (q5z n (x8.props, ())).bind fun (y10, _) =>
  (bif (y10 : Int) != 0 then kr (y10, ())
  else rec (x8.id, x8.id, ((Ev.Graph.mk o7.1.nodes o7.1.edges o7.1.next), ()), ()))))

theorem R_q4z_s0 {ρ : Type} (n : Nat) (kx : Int × (Ev.Graph × Unit) × Unit → Option ρ) (kr : Int × Unit → Option ρ) (l : List Ev.Node) (fuel : Nat) (v2 : Int) (v3 : Int) (o7 : Ev.Graph × Unit) (hl : l.length ≤ 9223372036854775807) (hf : l.length < fuel) :
    iterN (fun rc => q4z_s0 n rc kx kr) fuel (v2, v3, l, (l.length : Int), 0, o7, ()) = foldK (F_q4z_s0 n kr) (fun (v2, v3, o7, _) => kx (v2, ((Ev.Graph.mk o7.1.nodes o7.1.edges o7.1.next), ()), ())) 0 l (v2, v3, o7, ()) :=
  range_listM l (fun i (v2, v3, o7, _) => (v2, v3, l, (l.length : Int), i, o7, ())) _ _ _ (fun rec i s => rfl) hl fuel (v2, v3, o7, ()) hf

noncomputable def F_q4z_s2 {ρ : Type} (n : Nat) (kr : Int × Unit → Option ρ) : Int → Ev.Edg → (Int × Int × (Ev.Graph × Unit) × Unit) → ((Int × Int × (Ev.Graph × Unit) × Unit) → Option ρ) → Option ρ :=
  fun v18 x20 (v14, v15, o19, _) rec =>
  (bif decide ((x20.id : Int) ≤ v15) then kr (6, ())
  else
  (q13z n ((Ev.Graph.mk o19.1.nodes o19.1.edges o19.1.next), x20.id, ())).bind fun (y21, _) =>
  optC y21 (
  (q12z (x20.type, ())).bind fun (y23, _) =>
  (bif !y23 then kr (6, ())
  else
  (q13z n ((Ev.Graph.mk o19.1.nodes o19.1.edges o19.1.next), x20.src, ())).bind fun (y24, _) =>
  optC y24 (kr (5, ())) (fun z25 =>
  (q13z n ((Ev.Graph.mk o19.1.nodes o19.1.edges o19.1.next), x20.dst, ())).bind fun (y26, _) =>
  optC y26 (kr (5, ())) (fun z27 =>
  (q5z n (x20.props, ())).bind fun (y28, _) =>
  (bif (y28 : Int) != 0 then kr (y28, ())
  else rec ((if x20.id > v14 then x20.id else v14), x20.id, ((Ev.Graph.mk o19.1.nodes o19.1.edges o19.1.next), ()), ())))))) (fun z22 => kr (6, ())))

theorem R_q4z_s2 {ρ : Type} (n : Nat) (kx : Int × (Ev.Graph × Unit) × Unit → Option ρ) (kr : Int × Unit → Option ρ) (l : List Ev.Edg) (fuel : Nat) (v14 : Int) (v15 : Int) (o19 : Ev.Graph × Unit) (hl : l.length ≤ 9223372036854775807) (hf : l.length < fuel) :
    iterN (fun rc => q4z_s2 n rc kx kr) fuel (v14, v15, l, (l.length : Int), 0, o19, ()) = foldK (F_q4z_s2 n kr) (fun (v14, v15, o19, _) => kx (v14, ((Ev.Graph.mk o19.1.nodes o19.1.edges o19.1.next), ()), ())) 0 l (v14, v15, o19, ()) :=
  range_listM l (fun i (v14, v15, o19, _) => (v14, v15, l, (l.length : Int), i, o19, ())) _ _ _ (fun rec i s => rfl) hl fuel (v14, v15, o19, ()) hf

noncomputable def q4z (n : Nat) : Ev.Graph × Unit → Option (Int × Unit) :=
  fun (a1, _) =>
  (bif (decide (((a1.nodes.length : Int) : Int) > 40)) || (decide (((a1.edges.length : Int) : Int) > 60)) then some (2, ())
  else
  iterN (fun rc33 => q4z_s0 n rc33 (fun (v11, o12, _) =>
  iterN (fun rc32 => q4z_s2 n rc32 (fun (v29, o30, _) =>
  (bif (decide ((o30.1.next : Int) ≤ v29)) || (decide ((o30.1.next : Int) > 1099511627776)) then some (9, ())
  else some (0, ()))) (fun (v31, _) => some (v31, ()))) (n) (v11, 0, o12.1.edges, (o12.1.edges.length : Int), 0, ((Ev.Graph.mk o12.1.nodes o12.1.edges o12.1.next), ()), ())) (fun (v13, _) => some (v13, ()))) (n) (0, 0, a1.nodes, (a1.nodes.length : Int), 0, ((Ev.Graph.mk a1.nodes a1.edges a1.next), ()), ()))

noncomputable def q14z : Unit → Option (Ev.Graph × Unit) :=
  fun (_) => some ((Ev.Graph.mk ([(Ev.Node.mk 1 ([] : List ByteArray) ([] : List Ev.Prp)), (Ev.Node.mk 2 ([] : List ByteArray) ([] : List Ev.Prp)), (Ev.Node.mk 3 ([(⟨#[65]⟩ : ByteArray)] : List ByteArray) ([] : List Ev.Prp))] : List Ev.Node) ([(Ev.Edg.mk 4 1 2 (⟨#[75]⟩ : ByteArray) ([] : List Ev.Prp)), (Ev.Edg.mk 5 2 3 (⟨#[75]⟩ : ByteArray) ([] : List Ev.Prp))] : List Ev.Edg) 6), ())

noncomputable def q1z : (List Int) × Unit → Option ((List Int) × Unit) :=
  fun (a1, _) =>
  nilq a1 (some (([] : List Int), ())) (
  ck (room (([] : List Int) ++ a1).length 8) (some (([] : List Int) ++ a1, ())))

noncomputable def reach_Set_s2 {ρ : Type} (n : Nat) (rec : (List (Int × (List Int))) × (List Ev.Node) × Int × Int × (Ev.Node × Unit) × (List (Ev.Pair × Bool)) × (List Int) × Unit → Option ρ) (kx : (List (Int × (List Int))) × (List Ev.Node) × Int × Int × (List (Ev.Pair × Bool)) × Unit → Option ρ) (kr : Unit → Option ρ) : (List (Int × (List Int))) × (List Ev.Node) × Int × Int × (Ev.Node × Unit) × (List (Ev.Pair × Bool)) × (List Int) × Unit → Option ρ :=
  fun (v11, v12, v13, v14, o15, o16, o17, _) =>
  (bif decide (((o17.length : Int) : Int) > 0) then
  (ix o17 (IntKind.wrap .i64 ((o17.length : Int) - 1))).bind fun _ =>
  ((o17)[(IntKind.wrap .i64 ((o17.length : Int) - 1) : Int).toNat]?).bind fun e18 =>
  (cut? o17 (IntKind.wrap .i64 ((o17.length : Int) - 1))).bind fun r19 =>
  (bif !(mpGet .pair .bool false o16 (Ev.Pair.mk o15.1.id e18)) then
  ck (room (r19 ++ (mpGet .i64 (.lst .i64) ([] : List Int) v11 e18)).length 8) (rec (v11, v12, v13, v14, ((Ev.Node.mk o15.1.id o15.1.labels o15.1.props), ()), mpPut .pair .bool o16 (Ev.Pair.mk o15.1.id e18) true, r19 ++ (mpGet .i64 (.lst .i64) ([] : List Int) v11 e18), ()))
  else rec (v11, v12, v13, v14, ((Ev.Node.mk o15.1.id o15.1.labels o15.1.props), ()), o16, r19, ()))
  else kx (v11, v12, v13, v14, o16, ()))

noncomputable def reach_Set_s0 {ρ : Type} (n : Nat) (rec : (List (Int × (List Int))) × (List Ev.Node) × Int × Int × (List (Ev.Pair × Bool)) × Unit → Option ρ) (kx : (List (Ev.Pair × Bool)) × Unit → Option ρ) (kr : Unit → Option ρ) : (List (Int × (List Int))) × (List Ev.Node) × Int × Int × (List (Ev.Pair × Bool)) × Unit → Option ρ :=
  fun (v4, v5, v6, v7, o8, _) =>
  (bif decide ((v7 : Int) < v6) then
  (ix v5 v7).bind fun x9 =>
  (q1z ((mpGet .i64 (.lst .i64) ([] : List Int) v4 x9.id), ())).bind fun (o10, _) =>
  iterN (fun rc25 => reach_Set_s2 n rc25 (fun (v20, v21, v22, v23, o24, _) => rec (v20, v21, v22, IntKind.wrap .i64 (v23 + 1), o24, ())) (fun (_) => none)) (n) (v4, v5, v6, v7, ((Ev.Node.mk x9.id x9.labels x9.props), ()), o8, o10, ())
  else kx (o8, ()))

noncomputable def reach_Set (n : Nat) : Ev.Graph × ByteArray × Unit → Option ((List (Ev.Pair × Bool)) × Unit) :=
  fun (a1, a2, _) =>
  (nextN ((Ev.Graph.mk a1.nodes a1.edges a1.next), a2, ())).bind fun (y3, _) =>
  iterN (fun rc27 => reach_Set_s0 n rc27 (fun (o26, _) => some (o26, ())) (fun (_) => none)) (n) (y3, a1.nodes, (a1.nodes.length : Int), 0, ([] : List (Ev.Pair × Bool)), ())

noncomputable def q20z_s0 {ρ : Type} (n : Nat) (rec : (List Ev.Pair) × (List (Ev.Pair × Bool)) × Unit → Option ρ) (kx : (List Ev.Pair) × Unit → Option ρ) (kr : Unit → Option ρ) : (List Ev.Pair) × (List (Ev.Pair × Bool)) × Unit → Option ρ :=
  fun (o2, o3, _) =>
  rngM o3 (kx (o2, ())) (fun en4 re5 =>
  ck (room (o2 ++ ([(Ev.Pair.mk en4.1.p en4.1.q)] : List Ev.Pair)).length 16) (rec (o2 ++ ([(Ev.Pair.mk en4.1.p en4.1.q)] : List Ev.Pair), re5, ())))

noncomputable def q20z (n : Nat) : (List (Ev.Pair × Bool)) × Unit → Option ((List Ev.Pair) × Unit) :=
  fun (a1, _) =>
  iterN (fun rc8 => q20z_s0 n rc8 (fun (o6, _) =>
  (sfPair (o6, ())).bind fun (o7, _) => some (o7, ())) (fun (_) => none)) (n) (([] : List Ev.Pair), a1, ())

noncomputable def q23z_s0 {ρ : Type} (n : Nat) (rec : (List Ev.Pair) × Int × Int × (List Ev.Pair) × Unit → Option ρ) (kx : (List Ev.Pair) × Unit → Option ρ) (kr : Unit → Option ρ) : (List Ev.Pair) × Int × Int × (List Ev.Pair) × Unit → Option ρ :=
  fun (v2, v3, v4, o5, _) =>
  (bif decide ((v4 : Int) < v3) then
  (ix v2 v4).bind fun x6 =>
  ck (room (o5 ++ ([(Ev.Pair.mk x6.p x6.q)] : List Ev.Pair)).length 16) (rec (v2, v3, IntKind.wrap .i64 (v4 + 1), o5 ++ ([(Ev.Pair.mk x6.p x6.q)] : List Ev.Pair), ()))
  else kx (o5, ()))

noncomputable def F_q23z_s0 {ρ : Type} (n : Nat) (kr : Unit → Option ρ) : Int → Ev.Pair → ((List Ev.Pair) × Unit) → (((List Ev.Pair) × Unit) → Option ρ) → Option ρ :=
  fun v4 x6 (o5, _) rec =>
  ck (room (o5 ++ ([(Ev.Pair.mk x6.p x6.q)] : List Ev.Pair)).length 16) (rec (o5 ++ ([(Ev.Pair.mk x6.p x6.q)] : List Ev.Pair), ()))

theorem R_q23z_s0 {ρ : Type} (n : Nat) (kx : (List Ev.Pair) × Unit → Option ρ) (kr : Unit → Option ρ) (l : List Ev.Pair) (fuel : Nat) (o5 : List Ev.Pair) (hl : l.length ≤ 9223372036854775807) (hf : l.length < fuel) :
    iterN (fun rc => q23z_s0 n rc kx kr) fuel (l, (l.length : Int), 0, o5, ()) = foldK (F_q23z_s0 n kr) (fun (o5, _) => kx (o5, ())) 0 l (o5, ()) :=
  range_listM l (fun i (o5, _) => (l, (l.length : Int), i, o5, ())) _ _ _ (fun rec i s => rfl) hl fuel (o5, ()) hf

noncomputable def q23z (n : Nat) : (List Ev.Pair) × Unit → Option ((List Ev.Pair) × Unit) :=
  fun (a1, _) =>
  iterN (fun rc8 => q23z_s0 n rc8 (fun (o7, _) => some (o7, ())) (fun (_) => none)) (n) (a1, (a1.length : Int), 0, ([] : List Ev.Pair), ())

noncomputable def reach_All (n : Nat) : Ev.Graph × ByteArray × Unit → Option ((List Ev.Pair) × Int × Unit) :=
  fun (a1, a2, _) =>
  (q21z n ((Ev.Graph.mk a1.nodes a1.edges a1.next), ())).bind fun (y3, _) =>
  (bif (y3 : Int) != 0 then some (([] : List Ev.Pair), y3, ())
  else
  (reach_Set n ((Ev.Graph.mk a1.nodes a1.edges a1.next), a2, ())).bind fun (y4, _) =>
  (q20z n (y4, ())).bind fun (y5, _) =>
  (q23z n (y5, ())).bind fun (y6, _) => some (y6, 0, ()))

noncomputable def q2z_s0 {ρ : Type} (n : Nat) (rec : (List Ev.Pair) × (List Ev.Pair) × Int × Int × Unit → Option ρ) (kx : Unit → Option ρ) (kr : Bool × Unit → Option ρ) : (List Ev.Pair) × (List Ev.Pair) × Int × Int × Unit → Option ρ :=
  fun (v3, v4, v5, v6, _) =>
  (bif decide ((v6 : Int) < v5) then
  (ix v3 v6).bind fun x9 =>
  (ix v4 v6).bind fun x10 =>
  (bif (!keyEq .pair (Ev.Pair.mk x9.p x9.q) (Ev.Pair.mk x10.p x10.q)) then kr (false, ())
  else rec (v3, v4, v5, IntKind.wrap .i64 (v6 + 1), ()))
  else kx (()))

noncomputable def F_q2z_s0 {ρ : Type} (n : Nat) (kr : Bool × Unit → Option ρ) : Int → Ev.Pair → ((List Ev.Pair) × Unit) → (((List Ev.Pair) × Unit) → Option ρ) → Option ρ :=
  fun v6 x9 (v4, _) rec =>
  (ix v4 v6).bind fun x10 =>
  (bif (!keyEq .pair (Ev.Pair.mk x9.p x9.q) (Ev.Pair.mk x10.p x10.q)) then kr (false, ())
  else rec (v4, ()))

theorem R_q2z_s0 {ρ : Type} (n : Nat) (kx : Unit → Option ρ) (kr : Bool × Unit → Option ρ) (l : List Ev.Pair) (fuel : Nat) (v4 : List Ev.Pair) (hl : l.length ≤ 9223372036854775807) (hf : l.length < fuel) :
    iterN (fun rc => q2z_s0 n rc kx kr) fuel (l, v4, (l.length : Int), 0, ()) = foldK (F_q2z_s0 n kr) (fun (v4, _) => kx (())) 0 l (v4, ()) :=
  range_listM l (fun i (v4, _) => (l, v4, (l.length : Int), i, ())) _ _ _ (fun rec i s => rfl) hl fuel (v4, ()) hf

noncomputable def q2z (n : Nat) : (List Ev.Pair) × (List Ev.Pair) × Unit → Option (Bool × Unit) :=
  fun (a1, a2, _) =>
  (bif ((a1.length : Int) : Int) != (a2.length : Int) then some (false, ())
  else
  iterN (fun rc12 => q2z_s0 n rc12 (fun (_) => some (true, ())) (fun (v11, _) => some (v11, ()))) (n) (a1, a2, (a1.length : Int), 0, ()))

noncomputable def q8z_s0 {ρ : Type} (n : Nat) (rec : (List Int) × (List Int) × Int × Int × Unit → Option ρ) (kx : Unit → Option ρ) (kr : Bool × Unit → Option ρ) : (List Int) × (List Int) × Int × Int × Unit → Option ρ :=
  fun (v3, v4, v5, v6, _) =>
  (bif decide ((v6 : Int) < v5) then
  (ix v3 v6).bind fun x9 =>
  (ix v4 v6).bind fun x10 =>
  (bif (x9 : Int) != x10 then kr (false, ())
  else rec (v3, v4, v5, IntKind.wrap .i64 (v6 + 1), ()))
  else kx (()))

noncomputable def F_q8z_s0 {ρ : Type} (n : Nat) (kr : Bool × Unit → Option ρ) : Int → Int → ((List Int) × Unit) → (((List Int) × Unit) → Option ρ) → Option ρ :=
  fun v6 x9 (v4, _) rec =>
  (ix v4 v6).bind fun x10 =>
  (bif (x9 : Int) != x10 then kr (false, ())
  else rec (v4, ()))

theorem R_q8z_s0 {ρ : Type} (n : Nat) (kx : Unit → Option ρ) (kr : Bool × Unit → Option ρ) (l : List Int) (fuel : Nat) (v4 : List Int) (hl : l.length ≤ 9223372036854775807) (hf : l.length < fuel) :
    iterN (fun rc => q8z_s0 n rc kx kr) fuel (l, v4, (l.length : Int), 0, ()) = foldK (F_q8z_s0 n kr) (fun (v4, _) => kx (())) 0 l (v4, ()) :=
  range_listM l (fun i (v4, _) => (l, v4, (l.length : Int), i, ())) _ _ _ (fun rec i s => rfl) hl fuel (v4, ()) hf

noncomputable def q8z (n : Nat) : (List Int) × (List Int) × Unit → Option (Bool × Unit) :=
  fun (a1, a2, _) =>
  (bif ((a1.length : Int) : Int) != (a2.length : Int) then some (false, ())
  else
  iterN (fun rc12 => q8z_s0 n rc12 (fun (_) => some (true, ())) (fun (v11, _) => some (v11, ()))) (n) (a1, a2, (a1.length : Int), 0, ()))

noncomputable def q9z (n : Nat) : Unit → Option (Bool × Unit) :=
  fun (_) =>
  (q14z (())).bind fun (y1, _) =>
  (reach_All n ((Ev.Graph.mk y1.nodes y1.edges y1.next), (⟨#[75]⟩ : ByteArray), ())).bind fun (y2, y3, _) =>
  (q14z (())).bind fun (y4, _) =>
  (q28z n ((Ev.Graph.mk y4.nodes y4.edges y4.next), (⟨#[]⟩ : ByteArray), 1, 3, ())).bind fun (y5, y6, _) =>
  (bif ((y3 : Int) == 0) && ((y6 : Int) == 0) then
  (q2z n (y2, ([(Ev.Pair.mk 1 2), (Ev.Pair.mk 1 3), (Ev.Pair.mk 2 3)] : List Ev.Pair), ())).bind fun (y7, _) =>
  (bif y7 then
  (q8z n (y5, ([4, 5] : List Int), ())).bind fun (y8, _) => some (y8, ())
  else some (false, ()))
  else some (false, ()))

noncomputable def q10z_s0 {ρ : Type} (n : Nat) (rec : ByteArray × (List Ev.Edg) × Int × Int × (Ev.Graph × Unit) × (List (Ev.Pair × Bool)) × Unit → Option ρ) (kx : (Ev.Graph × Unit) × (List (Ev.Pair × Bool)) × Unit → Option ρ) (kr : Unit → Option ρ) : ByteArray × (List Ev.Edg) × Int × Int × (Ev.Graph × Unit) × (List (Ev.Pair × Bool)) × Unit → Option ρ :=
  fun (v3, v4, v5, v6, o7, o8, _) =>
  (bif decide ((v6 : Int) < v5) then
  (ix v4 v6).bind fun x9 =>
  (bif (seq v3 (⟨#[]⟩ : ByteArray)) || (seq x9.type v3) then rec (v3, v4, v5, IntKind.wrap .i64 (v6 + 1), ((Ev.Graph.mk o7.1.nodes o7.1.edges o7.1.next), ()), mpPut .pair .bool o8 (Ev.Pair.mk x9.src x9.dst) true, ())
  else rec (v3, v4, v5, IntKind.wrap .i64 (v6 + 1), ((Ev.Graph.mk o7.1.nodes o7.1.edges o7.1.next), ()), o8, ()))
  else kx (((Ev.Graph.mk o7.1.nodes o7.1.edges o7.1.next), ()), o8, ()))

noncomputable def q10z_s6 {ρ : Type} (n : Nat) (rec : (List Ev.Node) × Int × Int × (List Ev.Node) × Int × Int × (List Ev.Node) × Int × Int × (Ev.Graph × Unit) × (Ev.Node × Unit) × (Ev.Node × Unit) × (List (Ev.Pair × Bool)) × Unit → Option ρ) (kx : (List Ev.Node) × Int × Int × (List Ev.Node) × Int × Int × (Ev.Graph × Unit) × (Ev.Node × Unit) × (List (Ev.Pair × Bool)) × Unit → Option ρ) (kr : Unit → Option ρ) : (List Ev.Node) × Int × Int × (List Ev.Node) × Int × Int × (List Ev.Node) × Int × Int × (Ev.Graph × Unit) × (Ev.Node × Unit) × (Ev.Node × Unit) × (List (Ev.Pair × Bool)) × Unit → Option ρ :=
  fun (v28, v29, v30, v31, v32, v33, v34, v35, v36, o37, o38, o39, o40, _) =>
  (bif decide ((v36 : Int) < v35) then
  (ix v34 v36).bind fun x41 =>
  (bif (mpGet .pair .bool false o40 (Ev.Pair.mk o38.1.id x41.id)) then rec (v28, v29, v30, v31, v32, v33, v34, v35, IntKind.wrap .i64 (v36 + 1), ((Ev.Graph.mk o37.1.nodes o37.1.edges o37.1.next), ()), ((Ev.Node.mk o38.1.id o38.1.labels o38.1.props), ()), ((Ev.Node.mk o39.1.id o39.1.labels o39.1.props), ()), mpPut .pair .bool o40 (Ev.Pair.mk o39.1.id x41.id) true, ())
  else rec (v28, v29, v30, v31, v32, v33, v34, v35, IntKind.wrap .i64 (v36 + 1), ((Ev.Graph.mk o37.1.nodes o37.1.edges o37.1.next), ()), ((Ev.Node.mk o38.1.id o38.1.labels o38.1.props), ()), ((Ev.Node.mk o39.1.id o39.1.labels o39.1.props), ()), o40, ()))
  else kx (v28, v29, v30, v31, v32, v33, ((Ev.Graph.mk o37.1.nodes o37.1.edges o37.1.next), ()), ((Ev.Node.mk o38.1.id o38.1.labels o38.1.props), ()), o40, ()))

noncomputable def q10z_s4 {ρ : Type} (n : Nat) (rec : (List Ev.Node) × Int × Int × (List Ev.Node) × Int × Int × (Ev.Graph × Unit) × (Ev.Node × Unit) × (List (Ev.Pair × Bool)) × Unit → Option ρ) (kx : (List Ev.Node) × Int × Int × (Ev.Graph × Unit) × (List (Ev.Pair × Bool)) × Unit → Option ρ) (kr : Unit → Option ρ) : (List Ev.Node) × Int × Int × (List Ev.Node) × Int × Int × (Ev.Graph × Unit) × (Ev.Node × Unit) × (List (Ev.Pair × Bool)) × Unit → Option ρ :=
  fun (v18, v19, v20, v21, v22, v23, o24, o25, o26, _) =>
  (bif decide ((v23 : Int) < v22) then
  (ix v21 v23).bind fun x27 =>
  (bif !(mpGet .pair .bool false o26 (Ev.Pair.mk x27.id o25.1.id)) then rec (v18, v19, v20, v21, v22, IntKind.wrap .i64 (v23 + 1), ((Ev.Graph.mk o24.1.nodes o24.1.edges o24.1.next), ()), ((Ev.Node.mk o25.1.id o25.1.labels o25.1.props), ()), o26, ())
  else
  iterN (fun rc51 => q10z_s6 n rc51 (fun (v42, v43, v44, v45, v46, v47, o48, o49, o50, _) => rec (v42, v43, v44, v45, v46, IntKind.wrap .i64 (v47 + 1), ((Ev.Graph.mk o48.1.nodes o48.1.edges o48.1.next), ()), ((Ev.Node.mk o49.1.id o49.1.labels o49.1.props), ()), o50, ())) (fun (_) => none)) (n) (v18, v19, v20, v21, v22, v23, o24.1.nodes, (o24.1.nodes.length : Int), 0, ((Ev.Graph.mk o24.1.nodes o24.1.edges o24.1.next), ()), ((Ev.Node.mk o25.1.id o25.1.labels o25.1.props), ()), ((Ev.Node.mk x27.id x27.labels x27.props), ()), o26, ()))
  else kx (v18, v19, v20, ((Ev.Graph.mk o24.1.nodes o24.1.edges o24.1.next), ()), o26, ()))

noncomputable def q10z_s2 {ρ : Type} (n : Nat) (rec : (List Ev.Node) × Int × Int × (Ev.Graph × Unit) × (List (Ev.Pair × Bool)) × Unit → Option ρ) (kx : (List (Ev.Pair × Bool)) × Unit → Option ρ) (kr : Unit → Option ρ) : (List Ev.Node) × Int × Int × (Ev.Graph × Unit) × (List (Ev.Pair × Bool)) × Unit → Option ρ :=
  fun (v12, v13, v14, o15, o16, _) =>
  (bif decide ((v14 : Int) < v13) then
  (ix v12 v14).bind fun x17 =>
  iterN (fun rc57 => q10z_s4 n rc57 (fun (v52, v53, v54, o55, o56, _) => rec (v52, v53, IntKind.wrap .i64 (v54 + 1), ((Ev.Graph.mk o55.1.nodes o55.1.edges o55.1.next), ()), o56, ())) (fun (_) => none)) (n) (v12, v13, v14, o15.1.nodes, (o15.1.nodes.length : Int), 0, ((Ev.Graph.mk o15.1.nodes o15.1.edges o15.1.next), ()), ((Ev.Node.mk x17.id x17.labels x17.props), ()), o16, ())
  else kx (o16, ()))

noncomputable def F_q10z_s0 {ρ : Type} (n : Nat) (kr : Unit → Option ρ) : Int → Ev.Edg → (ByteArray × (Ev.Graph × Unit) × (List (Ev.Pair × Bool)) × Unit) → ((ByteArray × (Ev.Graph × Unit) × (List (Ev.Pair × Bool)) × Unit) → Option ρ) → Option ρ :=
  fun v6 x9 (v3, o7, o8, _) rec =>
  (bif (seq v3 (⟨#[]⟩ : ByteArray)) || (seq x9.type v3) then rec (v3, ((Ev.Graph.mk o7.1.nodes o7.1.edges o7.1.next), ()), mpPut .pair .bool o8 (Ev.Pair.mk x9.src x9.dst) true, ())
  else rec (v3, ((Ev.Graph.mk o7.1.nodes o7.1.edges o7.1.next), ()), o8, ()))

theorem R_q10z_s0 {ρ : Type} (n : Nat) (kx : (Ev.Graph × Unit) × (List (Ev.Pair × Bool)) × Unit → Option ρ) (kr : Unit → Option ρ) (l : List Ev.Edg) (fuel : Nat) (v3 : ByteArray) (o7 : Ev.Graph × Unit) (o8 : List (Ev.Pair × Bool)) (hl : l.length ≤ 9223372036854775807) (hf : l.length < fuel) :
    iterN (fun rc => q10z_s0 n rc kx kr) fuel (v3, l, (l.length : Int), 0, o7, o8, ()) = foldK (F_q10z_s0 n kr) (fun (v3, o7, o8, _) => kx (((Ev.Graph.mk o7.1.nodes o7.1.edges o7.1.next), ()), o8, ())) 0 l (v3, o7, o8, ()) :=
  range_listM l (fun i (v3, o7, o8, _) => (v3, l, (l.length : Int), i, o7, o8, ())) _ _ _ (fun rec i s => rfl) hl fuel (v3, o7, o8, ()) hf

noncomputable def F_q10z_s6 {ρ : Type} (n : Nat) (kr : Unit → Option ρ) : Int → Ev.Node → ((List Ev.Node) × Int × Int × (List Ev.Node) × Int × Int × (Ev.Graph × Unit) × (Ev.Node × Unit) × (Ev.Node × Unit) × (List (Ev.Pair × Bool)) × Unit) → (((List Ev.Node) × Int × Int × (List Ev.Node) × Int × Int × (Ev.Graph × Unit) × (Ev.Node × Unit) × (Ev.Node × Unit) × (List (Ev.Pair × Bool)) × Unit) → Option ρ) → Option ρ :=
  fun v36 x41 (v28, v29, v30, v31, v32, v33, o37, o38, o39, o40, _) rec =>
  (bif (mpGet .pair .bool false o40 (Ev.Pair.mk o38.1.id x41.id)) then rec (v28, v29, v30, v31, v32, v33, ((Ev.Graph.mk o37.1.nodes o37.1.edges o37.1.next), ()), ((Ev.Node.mk o38.1.id o38.1.labels o38.1.props), ()), ((Ev.Node.mk o39.1.id o39.1.labels o39.1.props), ()), mpPut .pair .bool o40 (Ev.Pair.mk o39.1.id x41.id) true, ())
  else rec (v28, v29, v30, v31, v32, v33, ((Ev.Graph.mk o37.1.nodes o37.1.edges o37.1.next), ()), ((Ev.Node.mk o38.1.id o38.1.labels o38.1.props), ()), ((Ev.Node.mk o39.1.id o39.1.labels o39.1.props), ()), o40, ()))

theorem R_q10z_s6 {ρ : Type} (n : Nat) (kx : (List Ev.Node) × Int × Int × (List Ev.Node) × Int × Int × (Ev.Graph × Unit) × (Ev.Node × Unit) × (List (Ev.Pair × Bool)) × Unit → Option ρ) (kr : Unit → Option ρ) (l : List Ev.Node) (fuel : Nat) (v28 : List Ev.Node) (v29 : Int) (v30 : Int) (v31 : List Ev.Node) (v32 : Int) (v33 : Int) (o37 : Ev.Graph × Unit) (o38 : Ev.Node × Unit) (o39 : Ev.Node × Unit) (o40 : List (Ev.Pair × Bool)) (hl : l.length ≤ 9223372036854775807) (hf : l.length < fuel) :
    iterN (fun rc => q10z_s6 n rc kx kr) fuel (v28, v29, v30, v31, v32, v33, l, (l.length : Int), 0, o37, o38, o39, o40, ()) = foldK (F_q10z_s6 n kr) (fun (v28, v29, v30, v31, v32, v33, o37, o38, o39, o40, _) => kx (v28, v29, v30, v31, v32, v33, ((Ev.Graph.mk o37.1.nodes o37.1.edges o37.1.next), ()), ((Ev.Node.mk o38.1.id o38.1.labels o38.1.props), ()), o40, ())) 0 l (v28, v29, v30, v31, v32, v33, o37, o38, o39, o40, ()) :=
  range_listM l (fun i (v28, v29, v30, v31, v32, v33, o37, o38, o39, o40, _) => (v28, v29, v30, v31, v32, v33, l, (l.length : Int), i, o37, o38, o39, o40, ())) _ _ _ (fun rec i s => rfl) hl fuel (v28, v29, v30, v31, v32, v33, o37, o38, o39, o40, ()) hf

noncomputable def q10z (n : Nat) : Ev.Graph × ByteArray × Unit → Option ((List (Ev.Pair × Bool)) × Unit) :=
  fun (a1, a2, _) =>
  iterN (fun rc60 => q10z_s0 n rc60 (fun (o10, o11, _) =>
  iterN (fun rc59 => q10z_s2 n rc59 (fun (o58, _) => some (o58, ())) (fun (_) => none)) (n) (o10.1.nodes, (o10.1.nodes.length : Int), 0, ((Ev.Graph.mk o10.1.nodes o10.1.edges o10.1.next), ()), o11, ())) (fun (_) => none)) (n) (a2, a1.edges, (a1.edges.length : Int), 0, ((Ev.Graph.mk a1.nodes a1.edges a1.next), ()), ([] : List (Ev.Pair × Bool)), ())

noncomputable def q11z_s0 {ρ : Type} (n : Nat) (rec : Int × Int × Int × (Ev.Graph × Unit) × Unit → Option ρ) (kx : Unit → Option ρ) (kr : Ev.Edg × Unit → Option ρ) : Int × Int × Int × (Ev.Graph × Unit) × Unit → Option ρ :=
  fun (v3, v4, v5, o6, _) =>
  (bif decide ((v5 : Int) < v4) then
  (ix o6.1.edges v5).bind fun x7 =>
  (bif (x7.id : Int) == v3 then
  (ix o6.1.edges v5).bind fun x8 => kr ((Ev.Edg.mk x8.id x8.src x8.dst x8.type x8.props), ())
  else rec (v3, v4, IntKind.wrap .i64 (v5 + 1), ((Ev.Graph.mk o6.1.nodes o6.1.edges o6.1.next), ()), ()))
  else kx (()))

noncomputable def q11z (n : Nat) : Ev.Graph × Int × Unit → Option ((Option Ev.Edg) × Unit) :=
  fun (a1, a2, _) =>
  iterN (fun rc10 => q11z_s0 n rc10 (fun (_) => some (none, ())) (fun (v9, _) => some (some (Ev.Edg.mk v9.id v9.src v9.dst v9.type v9.props), ()))) (n) (a2, (a1.edges.length : Int), 0, ((Ev.Graph.mk a1.nodes a1.edges a1.next), ()), ())

noncomputable def q7z_s4 {ρ : Type} (n : Nat) (rec : ByteArray × Int × Int × (List Int) × Int × (List Int) × Int × (List (List Int)) × Int × Int × (List Ev.Edg) × Int × Int × (Ev.Graph × Unit) × (List (List Int)) × (List (Int × Bool)) × Unit → Option ρ) (kx : ByteArray × Int × Int × (List Int) × Int × (List (List Int)) × Int × Int × (Ev.Graph × Unit) × (List (List Int)) × (List (Int × Bool)) × Unit → Option ρ) (kr : Unit → Option ρ) : ByteArray × Int × Int × (List Int) × Int × (List Int) × Int × (List (List Int)) × Int × Int × (List Ev.Edg) × Int × Int × (Ev.Graph × Unit) × (List (List Int)) × (List (Int × Bool)) × Unit → Option ρ :=
  fun (v38, v39, v40, v41, v42, v43, v44, v45, v46, v47, v48, v49, v50, o51, o52, o53, _) =>
  (bif decide ((v50 : Int) < v49) then
  (ix v48 v50).bind fun x54 =>
  (bif ((x54.src : Int) == v44) && ((seq v38 (⟨#[]⟩ : ByteArray)) || (seq x54.type v38)) then
  (q1z (v43, ())).bind fun (o55, _) =>
  ck (room (o55 ++ ([x54.id] : List Int)).length 8) (
  ck (room (o52 ++ ([o55 ++ ([x54.id] : List Int)] : List (List Int))).length 24) (rec (v38, v39, v40, v41, v42, v43, v44, v45, v46, v47, v48, v49, IntKind.wrap .i64 (v50 + 1), ((Ev.Graph.mk o51.1.nodes o51.1.edges o51.1.next), ()), o52 ++ ([o55 ++ ([x54.id] : List Int)] : List (List Int)), o53, ())))
  else rec (v38, v39, v40, v41, v42, v43, v44, v45, v46, v47, v48, v49, IntKind.wrap .i64 (v50 + 1), ((Ev.Graph.mk o51.1.nodes o51.1.edges o51.1.next), ()), o52, o53, ()))
  else kx (v38, v39, v40, v41, v42, v45, v46, v47, ((Ev.Graph.mk o51.1.nodes o51.1.edges o51.1.next), ()), o52, o53, ()))

noncomputable def q7z_s2 {ρ : Type} (n : Nat) (rec : ByteArray × Int × Int × (List Int) × Int × (List (List Int)) × Int × Int × (Ev.Graph × Unit) × (List (List Int)) × (List (Int × Bool)) × Unit → Option ρ) (kx : ByteArray × Int × Int × (List Int) × Int × (Ev.Graph × Unit) × (List (List Int)) × Unit → Option ρ) (kr : Unit → Option ρ) : ByteArray × Int × Int × (List Int) × Int × (List (List Int)) × Int × Int × (Ev.Graph × Unit) × (List (List Int)) × (List (Int × Bool)) × Unit → Option ρ :=
  fun (v22, v23, v24, v25, v26, v27, v28, v29, o30, o31, o32, _) =>
  (bif decide ((v29 : Int) < v28) then
  (ix v27 v29).bind fun x33 =>
  (bif decide (((x33.length : Int) : Int) > 0) then
  (ix x33 (IntKind.wrap .i64 ((x33.length : Int) - 1))).bind fun x35 =>
  (q11z n ((Ev.Graph.mk o30.1.nodes o30.1.edges o30.1.next), x35, ())).bind fun (y36, _) =>
  optC y36 (none) (fun z37 =>
  (bif (mpGet .i64 .bool false o32 z37.dst) then rec (v22, v23, v24, v25, v26, v27, v28, IntKind.wrap .i64 (v29 + 1), ((Ev.Graph.mk o30.1.nodes o30.1.edges o30.1.next), ()), o31, o32, ())
  else
  iterN (fun rc67 => q7z_s4 n rc67 (fun (v56, v57, v58, v59, v60, v61, v62, v63, o64, o65, o66, _) => rec (v56, v57, v58, v59, v60, v61, v62, IntKind.wrap .i64 (v63 + 1), ((Ev.Graph.mk o64.1.nodes o64.1.edges o64.1.next), ()), o65, o66, ())) (fun (_) => none)) (n) (v22, v23, v24, v25, v26, x33, z37.dst, v27, v28, v29, o30.1.edges, (o30.1.edges.length : Int), 0, ((Ev.Graph.mk o30.1.nodes o30.1.edges o30.1.next), ()), o31, mpPut .i64 .bool o32 z37.dst true, ())))
  else
  (bif (mpGet .i64 .bool false o32 v23) then rec (v22, v23, v24, v25, v26, v27, v28, IntKind.wrap .i64 (v29 + 1), ((Ev.Graph.mk o30.1.nodes o30.1.edges o30.1.next), ()), o31, o32, ())
  else
  iterN (fun rc79 => q7z_s4 n rc79 (fun (v68, v69, v70, v71, v72, v73, v74, v75, o76, o77, o78, _) => rec (v68, v69, v70, v71, v72, v73, v74, IntKind.wrap .i64 (v75 + 1), ((Ev.Graph.mk o76.1.nodes o76.1.edges o76.1.next), ()), o77, o78, ())) (fun (_) => none)) (n) (v22, v23, v24, v25, v26, x33, v23, v27, v28, v29, o30.1.edges, (o30.1.edges.length : Int), 0, ((Ev.Graph.mk o30.1.nodes o30.1.edges o30.1.next), ()), o31, mpPut .i64 .bool o32 v23 true, ())))
  else kx (v22, v23, v24, v25, v26, ((Ev.Graph.mk o30.1.nodes o30.1.edges o30.1.next), ()), o31, ()))

noncomputable def q7z_s6 {ρ : Type} (n : Nat) (rec : ByteArray × Int × Int × (List Int) × Int × (List (List Int)) × (List (List Int)) × Int × Int × (Ev.Graph × Unit) × Unit → Option ρ) (kx : ByteArray × Int × Int × (List Int) × Int × (List (List Int)) × (Ev.Graph × Unit) × Unit → Option ρ) (kr : Bool × Unit → Option ρ) : ByteArray × Int × Int × (List Int) × Int × (List (List Int)) × (List (List Int)) × Int × Int × (Ev.Graph × Unit) × Unit → Option ρ :=
  fun (v88, v89, v90, v91, v92, v93, v94, v95, v96, o97, _) =>
  (bif decide ((v96 : Int) < v95) then
  (ix v94 v96).bind fun x98 =>
  (ix x98 (IntKind.wrap .i64 ((x98.length : Int) - 1))).bind fun x100 =>
  (q11z n ((Ev.Graph.mk o97.1.nodes o97.1.edges o97.1.next), x100, ())).bind fun (y101, _) =>
  optC y101 (none) (fun z102 =>
  (bif (z102.dst : Int) == v90 then
  (bif (v92 : Int) == 0 then
  (q8z n (v91, x98, ())).bind fun (y103, _) => kr (y103, ())
  else kr (false, ()))
  else rec (v88, v89, v90, v91, v92, v93, v94, v95, IntKind.wrap .i64 (v96 + 1), ((Ev.Graph.mk o97.1.nodes o97.1.edges o97.1.next), ()), ())))
  else kx (v88, v89, v90, v91, v92, v93, ((Ev.Graph.mk o97.1.nodes o97.1.edges o97.1.next), ()), ()))

noncomputable def q7z_s0 {ρ : Type} (n : Nat) (rec : ByteArray × Int × Int × (List Int) × Int × (List (List Int)) × (Ev.Graph × Unit) × Unit → Option ρ) (kx : Unit → Option ρ) (kr : Bool × Unit → Option ρ) : ByteArray × Int × Int × (List Int) × Int × (List (List Int)) × (Ev.Graph × Unit) × Unit → Option ρ :=
  fun (v15, v16, v17, v18, v19, v20, o21, _) =>
  iterN (fun rc113 => q7z_s2 n rc113 (fun (v80, v81, v82, v83, v84, o85, o86, _) =>
  (sfLL (o86, ())).bind fun (o87, _) =>
  iterN (fun rc112 => q7z_s6 n rc112 (fun (v104, v105, v106, v107, v108, v109, o110, _) => rec (v104, v105, v106, v107, v108, v109, ((Ev.Graph.mk o110.1.nodes o110.1.edges o110.1.next), ()), ())) (fun (v111, _) => kr (v111, ()))) (n) (v80, v81, v82, v83, v84, o87, o87, (o87.length : Int), 0, ((Ev.Graph.mk o85.1.nodes o85.1.edges o85.1.next), ()), ())) (fun (_) => none)) (n) (v15, v16, v17, v18, v19, v20, (v20.length : Int), 0, ((Ev.Graph.mk o21.1.nodes o21.1.edges o21.1.next), ()), ([] : List (List Int)), ([] : List (Int × Bool)), ())

noncomputable def F_q7z_s4 {ρ : Type} (n : Nat) (kr : Unit → Option ρ) : Int → Ev.Edg → (ByteArray × Int × Int × (List Int) × Int × (List Int) × Int × (List (List Int)) × Int × Int × (Ev.Graph × Unit) × (List (List Int)) × (List (Int × Bool)) × Unit) → ((ByteArray × Int × Int × (List Int) × Int × (List Int) × Int × (List (List Int)) × Int × Int × (Ev.Graph × Unit) × (List (List Int)) × (List (Int × Bool)) × Unit) → Option ρ) → Option ρ :=
  fun v50 x54 (v38, v39, v40, v41, v42, v43, v44, v45, v46, v47, o51, o52, o53, _) rec =>
  (bif ((x54.src : Int) == v44) && ((seq v38 (⟨#[]⟩ : ByteArray)) || (seq x54.type v38)) then
  (q1z (v43, ())).bind fun (o55, _) =>
  ck (room (o55 ++ ([x54.id] : List Int)).length 8) (
  ck (room (o52 ++ ([o55 ++ ([x54.id] : List Int)] : List (List Int))).length 24) (rec (v38, v39, v40, v41, v42, v43, v44, v45, v46, v47, ((Ev.Graph.mk o51.1.nodes o51.1.edges o51.1.next), ()), o52 ++ ([o55 ++ ([x54.id] : List Int)] : List (List Int)), o53, ())))
  else rec (v38, v39, v40, v41, v42, v43, v44, v45, v46, v47, ((Ev.Graph.mk o51.1.nodes o51.1.edges o51.1.next), ()), o52, o53, ()))

theorem R_q7z_s4 {ρ : Type} (n : Nat) (kx : ByteArray × Int × Int × (List Int) × Int × (List (List Int)) × Int × Int × (Ev.Graph × Unit) × (List (List Int)) × (List (Int × Bool)) × Unit → Option ρ) (kr : Unit → Option ρ) (l : List Ev.Edg) (fuel : Nat) (v38 : ByteArray) (v39 : Int) (v40 : Int) (v41 : List Int) (v42 : Int) (v43 : List Int) (v44 : Int) (v45 : List (List Int)) (v46 : Int) (v47 : Int) (o51 : Ev.Graph × Unit) (o52 : List (List Int)) (o53 : List (Int × Bool)) (hl : l.length ≤ 9223372036854775807) (hf : l.length < fuel) :
    iterN (fun rc => q7z_s4 n rc kx kr) fuel (v38, v39, v40, v41, v42, v43, v44, v45, v46, v47, l, (l.length : Int), 0, o51, o52, o53, ()) = foldK (F_q7z_s4 n kr) (fun (v38, v39, v40, v41, v42, v43, v44, v45, v46, v47, o51, o52, o53, _) => kx (v38, v39, v40, v41, v42, v45, v46, v47, ((Ev.Graph.mk o51.1.nodes o51.1.edges o51.1.next), ()), o52, o53, ())) 0 l (v38, v39, v40, v41, v42, v43, v44, v45, v46, v47, o51, o52, o53, ()) :=
  range_listM l (fun i (v38, v39, v40, v41, v42, v43, v44, v45, v46, v47, o51, o52, o53, _) => (v38, v39, v40, v41, v42, v43, v44, v45, v46, v47, l, (l.length : Int), i, o51, o52, o53, ())) _ _ _ (fun rec i s => rfl) hl fuel (v38, v39, v40, v41, v42, v43, v44, v45, v46, v47, o51, o52, o53, ()) hf

noncomputable def F_q7z_s6 {ρ : Type} (n : Nat) (kr : Bool × Unit → Option ρ) : Int → ((List Int)) → (ByteArray × Int × Int × (List Int) × Int × (List (List Int)) × (Ev.Graph × Unit) × Unit) → ((ByteArray × Int × Int × (List Int) × Int × (List (List Int)) × (Ev.Graph × Unit) × Unit) → Option ρ) → Option ρ :=
  fun v96 x98 (v88, v89, v90, v91, v92, v93, o97, _) rec =>
  (ix x98 (IntKind.wrap .i64 ((x98.length : Int) - 1))).bind fun x100 =>
  (q11z n ((Ev.Graph.mk o97.1.nodes o97.1.edges o97.1.next), x100, ())).bind fun (y101, _) =>
  optC y101 (none) (fun z102 =>
  (bif (z102.dst : Int) == v90 then
  (bif (v92 : Int) == 0 then
  (q8z n (v91, x98, ())).bind fun (y103, _) => kr (y103, ())
  else kr (false, ()))
  else rec (v88, v89, v90, v91, v92, v93, ((Ev.Graph.mk o97.1.nodes o97.1.edges o97.1.next), ()), ())))

theorem R_q7z_s6 {ρ : Type} (n : Nat) (kx : ByteArray × Int × Int × (List Int) × Int × (List (List Int)) × (Ev.Graph × Unit) × Unit → Option ρ) (kr : Bool × Unit → Option ρ) (l : List (List Int)) (fuel : Nat) (v88 : ByteArray) (v89 : Int) (v90 : Int) (v91 : List Int) (v92 : Int) (v93 : List (List Int)) (o97 : Ev.Graph × Unit) (hl : l.length ≤ 9223372036854775807) (hf : l.length < fuel) :
    iterN (fun rc => q7z_s6 n rc kx kr) fuel (v88, v89, v90, v91, v92, v93, l, (l.length : Int), 0, o97, ()) = foldK (F_q7z_s6 n kr) (fun (v88, v89, v90, v91, v92, v93, o97, _) => kx (v88, v89, v90, v91, v92, v93, ((Ev.Graph.mk o97.1.nodes o97.1.edges o97.1.next), ()), ())) 0 l (v88, v89, v90, v91, v92, v93, o97, ()) :=
  range_listM l (fun i (v88, v89, v90, v91, v92, v93, o97, _) => (v88, v89, v90, v91, v92, v93, l, (l.length : Int), i, o97, ())) _ _ _ (fun rec i s => rfl) hl fuel (v88, v89, v90, v91, v92, v93, o97, ()) hf

noncomputable def q7z (n : Nat) : Ev.Graph × ByteArray × Int × Int × Unit → Option (Bool × Unit) :=
  fun (a1, a2, a3, a4, _) =>
  (q28z n ((Ev.Graph.mk a1.nodes a1.edges a1.next), a2, a3, a4, ())).bind fun (y5, y6, _) =>
  (q4z n ((Ev.Graph.mk a1.nodes a1.edges a1.next), ())).bind fun (y7, _) =>
  (q9z n (())).bind fun (y8, _) =>
  (bif (!y8) || ((y7 : Int) != 0) then
  (q9z n (())).bind fun (y9, _) => some ((y9 && ((y6 : Int) == y7)) && (((y5.length : Int) : Int) == 0), ())
  else
  (q13z n ((Ev.Graph.mk a1.nodes a1.edges a1.next), a3, ())).bind fun (y10, _) =>
  optC y10 (some (((y6 : Int) == 5) && (((y5.length : Int) : Int) == 0), ())) (fun z11 =>
  (q13z n ((Ev.Graph.mk a1.nodes a1.edges a1.next), a4, ())).bind fun (y12, _) =>
  optC y12 (some (((y6 : Int) == 5) && (((y5.length : Int) : Int) == 0), ())) (fun z13 =>
  (q10z n ((Ev.Graph.mk a1.nodes a1.edges a1.next), a2, ())).bind fun (y14, _) =>
  (bif !(mpGet .pair .bool false y14 (Ev.Pair.mk a3 a4)) then some (((y6 : Int) == 5) && (((y5.length : Int) : Int) == 0), ())
  else
  iterN (fun rc115 => q7z_s0 n rc115 (fun (_) => none) (fun (v114, _) => some (v114, ()))) (n) (a2, a3, a4, y5, y6, ([([] : List Int)] : List (List Int)), ((Ev.Graph.mk a1.nodes a1.edges a1.next), ()), ())))))

end Pure

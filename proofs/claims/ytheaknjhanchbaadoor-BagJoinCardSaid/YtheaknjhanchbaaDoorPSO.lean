/- Several texts in one (merge.py). -/
import Derived.Test.YtheaknjhanchbaaDoorPRange
/- The sorts of package slices (SortStableFunc), over any type: what they compute. No program. -/
namespace Pure
open Esp Ev Go
set_option linter.unusedSimpArgs false
set_option linter.unusedVariables false
set_option linter.unusedSimpArgs false
set_option linter.unusedVariables false

noncomputable def G_iS_s2 {α : Type} (cmp : Nat → α × α × Unit → Option (Int × Unit)) {ρ : Type} (n : Nat) (rec : Int × Int × Int × Int × (List α) × Unit → Option ρ) (kx : Int × Int × Int × (List α) × Unit → Option ρ) (kr : Unit → Option ρ) : Int × Int × Int × Int × (List α) × Unit → Option ρ :=
  fun (v8, v9, v10, v11, o12, _) => 
  (bif decide ((v11 : Int) > v8) then 
  (ix o12 v11).bind fun _ => 
  ((o12)[(v11 : Int).toNat]?).bind fun e13 => 
  (ix o12 (IntKind.wrap .i64 (v11 - 1))).bind fun _ => 
  ((o12)[(IntKind.wrap .i64 (v11 - 1) : Int).toNat]?).bind fun e14 => 
  (cmp n (e13, e14, ())).bind fun (y15, _) => 
  (bif decide ((y15 : Int) < 0) then 
  (ix o12 (IntKind.wrap .i64 (v11 - 1))).bind fun _ => 
  ((o12)[(IntKind.wrap .i64 (v11 - 1) : Int).toNat]?).bind fun e20 => 
  (ix o12 v11).bind fun _ => 
  ((o12)[(v11 : Int).toNat]?).bind fun e21 => 
  (ix o12 v11).bind fun _ => 
  ((o12)[(v11 : Int).toNat]?).bind fun e22 => 
  (ix ((o12).set ((v11 : Int).toNat) e20) (IntKind.wrap .i64 (v11 - 1))).bind fun _ => 
  (((o12).set ((v11 : Int).toNat) e20)[(IntKind.wrap .i64 (v11 - 1) : Int).toNat]?).bind fun e23 => rec (v8, v9, v10, IntKind.wrap .i64 (v11 - 1), ((o12).set ((v11 : Int).toNat) e20).set ((IntKind.wrap .i64 (v11 - 1) : Int).toNat) e21, ())
  else kx (v8, v9, v10, o12, ()))
  else kx (v8, v9, v10, o12, ()))

noncomputable def G_iS_s0 {α : Type} (cmp : Nat → α × α × Unit → Option (Int × Unit)) {ρ : Type} (n : Nat) (rec : Int × Int × Int × (List α) × Unit → Option ρ) (kx : (List α) × Unit → Option ρ) (kr : Unit → Option ρ) : Int × Int × Int × (List α) × Unit → Option ρ :=
  fun (v4, v5, v6, o7, _) => 
  (bif decide ((v6 : Int) < v5) then 
  iterN (fun rc28 => G_iS_s2 cmp n rc28 (fun (v24, v25, v26, o27, _) => rec (v24, v25, IntKind.wrap .i64 (v26 + 1), o27, ())) (fun (_) => none)) (n) (v4, v5, v6, v6, o7, ())
  else kx (o7, ()))

noncomputable def G_iS {α : Type} (cmp : Nat → α × α × Unit → Option (Int × Unit)) (n : Nat) : Int × Int × (List α) × Unit → Option ((List α) × Unit) :=
  fun (a1, a2, o3, _) => 
  iterN (fun rc30 => G_iS_s0 cmp n rc30 (fun (o29, _) => some (o29, ())) (fun (_) => none)) (n) (a1, a2, IntKind.wrap .i64 (a1 + 1), o3, ())

noncomputable def G_swapRange_s0 {α : Type} {ρ : Type} (n : Nat) (rec : Int × Int × Int × Int × (List α) × Unit → Option ρ) (kx : (List α) × Unit → Option ρ) (kr : Unit → Option ρ) : Int × Int × Int × Int × (List α) × Unit → Option ρ :=
  fun (v5, v6, v7, v8, o9, _) => 
  (bif decide ((v8 : Int) < v7) then 
  (ix o9 (IntKind.wrap .i64 (v6 + v8))).bind fun _ => 
  ((o9)[(IntKind.wrap .i64 (v6 + v8) : Int).toNat]?).bind fun e14 => 
  (ix o9 (IntKind.wrap .i64 (v5 + v8))).bind fun _ => 
  ((o9)[(IntKind.wrap .i64 (v5 + v8) : Int).toNat]?).bind fun e15 => 
  (ix o9 (IntKind.wrap .i64 (v5 + v8))).bind fun _ => 
  ((o9)[(IntKind.wrap .i64 (v5 + v8) : Int).toNat]?).bind fun e16 => 
  (ix ((o9).set ((IntKind.wrap .i64 (v5 + v8) : Int).toNat) e14) (IntKind.wrap .i64 (v6 + v8))).bind fun _ => 
  (((o9).set ((IntKind.wrap .i64 (v5 + v8) : Int).toNat) e14)[(IntKind.wrap .i64 (v6 + v8) : Int).toNat]?).bind fun e17 => rec (v5, v6, v7, IntKind.wrap .i64 (v8 + 1), ((o9).set ((IntKind.wrap .i64 (v5 + v8) : Int).toNat) e14).set ((IntKind.wrap .i64 (v6 + v8) : Int).toNat) e15, ())
  else kx (o9, ()))

noncomputable def G_swapRange {α : Type} (n : Nat) : Int × Int × Int × (List α) × Unit → Option ((List α) × Unit) :=
  fun (a1, a2, a3, o4, _) => 
  iterN (fun rc19 => G_swapRange_s0 n rc19 (fun (o18, _) => some (o18, ())) (fun (_) => none)) (n) (a1, a2, a3, 0, o4, ())

noncomputable def G_rotate_s0 {α : Type} {ρ : Type} (n : Nat) (rec : Int × Int × Int × (List α) × Unit → Option ρ) (kx : Int × Int × (List α) × Unit → Option ρ) (kr : Unit → Option ρ) : Int × Int × Int × (List α) × Unit → Option ρ :=
  fun (v5, v6, v7, o8, _) => 
  (bif (v6 : Int) != v7 then 
  (bif decide ((v6 : Int) > v7) then 
  (G_swapRange n (IntKind.wrap .i64 (v5 - v6), v5, v7, o8, ())).bind fun (o9, _) => rec (v5, IntKind.wrap .i64 (v6 - v7), v7, o9, ())
  else 
  (G_swapRange n (IntKind.wrap .i64 (v5 - v6), IntKind.wrap .i64 ((IntKind.wrap .i64 (v5 + v7)) - v6), v6, o8, ())).bind fun (o10, _) => rec (v5, v6, IntKind.wrap .i64 (v7 - v6), o10, ()))
  else kx (v5, v6, o8, ()))

noncomputable def G_rotate {α : Type} (n : Nat) : Int × Int × Int × (List α) × Unit → Option ((List α) × Unit) :=
  fun (a1, a2, a3, o4, _) => 
  iterN (fun rc15 => G_rotate_s0 n rc15 (fun (v11, v12, o13, _) => 
  (G_swapRange n (IntKind.wrap .i64 (v11 - v12), v11, v12, o13, ())).bind fun (o14, _) => some (o14, ())) (fun (_) => none)) (n) (a2, IntKind.wrap .i64 (a2 - a1), IntKind.wrap .i64 (a3 - a2), o4, ())

noncomputable def G_sM_s0 {α : Type} (cmp : Nat → α × α × Unit → Option (Int × Unit)) {ρ : Type} (self_G_sM : Int × Int × Int × (List α) × Unit → Option ((List α) × Unit)) (n : Nat) (rec : Int × Int × Int × (List α) × Unit → Option ρ) (kx : Int × Int × (List α) × Unit → Option ρ) (kr : Unit → Option ρ) : Int × Int × Int × (List α) × Unit → Option ρ :=
  fun (v5, v6, v7, o8, _) => 
  (bif decide ((v6 : Int) < v7) then 
  (ix o8 (IntKind.wrap .i64 (bshr .u64 (IntKind.wrap .u64 (IntKind.wrap .i64 (v6 + v7))) 1))).bind fun _ => 
  ((o8)[(IntKind.wrap .i64 (bshr .u64 (IntKind.wrap .u64 (IntKind.wrap .i64 (v6 + v7))) 1) : Int).toNat]?).bind fun e11 => 
  (ix o8 v5).bind fun _ => 
  ((o8)[(v5 : Int).toNat]?).bind fun e12 => 
  (cmp n (e11, e12, ())).bind fun (y13, _) => 
  (bif decide ((y13 : Int) < 0) then rec (v5, IntKind.wrap .i64 ((IntKind.wrap .i64 (bshr .u64 (IntKind.wrap .u64 (IntKind.wrap .i64 (v6 + v7))) 1)) + 1), v7, o8, ())
  else rec (v5, v6, IntKind.wrap .i64 (bshr .u64 (IntKind.wrap .u64 (IntKind.wrap .i64 (v6 + v7))) 1), o8, ()))
  else kx (v5, v6, o8, ()))

noncomputable def G_sM_s2 {α : Type} {ρ : Type} (self_G_sM : Int × Int × Int × (List α) × Unit → Option ((List α) × Unit)) (n : Nat) (rec : Int × Int × (List α) × Unit → Option ρ) (kx : (List α) × Unit → Option ρ) (kr : Unit → Option ρ) : Int × Int × (List α) × Unit → Option ρ :=
  fun (v17, v18, o19, _) => 
  (bif decide ((v18 : Int) < (IntKind.wrap .i64 (v17 - 1))) then 
  (ix o19 (IntKind.wrap .i64 (v18 + 1))).bind fun _ => 
  ((o19)[(IntKind.wrap .i64 (v18 + 1) : Int).toNat]?).bind fun e24 => 
  (ix o19 v18).bind fun _ => 
  ((o19)[(v18 : Int).toNat]?).bind fun e25 => 
  (ix o19 v18).bind fun _ => 
  ((o19)[(v18 : Int).toNat]?).bind fun e26 => 
  (ix ((o19).set ((v18 : Int).toNat) e24) (IntKind.wrap .i64 (v18 + 1))).bind fun _ => 
  (((o19).set ((v18 : Int).toNat) e24)[(IntKind.wrap .i64 (v18 + 1) : Int).toNat]?).bind fun e27 => rec (v17, IntKind.wrap .i64 (v18 + 1), ((o19).set ((v18 : Int).toNat) e24).set ((IntKind.wrap .i64 (v18 + 1) : Int).toNat) e25, ())
  else kx (o19, ()))

noncomputable def G_sM_s4 {α : Type} (cmp : Nat → α × α × Unit → Option (Int × Unit)) {ρ : Type} (self_G_sM : Int × Int × Int × (List α) × Unit → Option ((List α) × Unit)) (n : Nat) (rec : Int × Int × Int × (List α) × Unit → Option ρ) (kx : Int × Int × (List α) × Unit → Option ρ) (kr : Unit → Option ρ) : Int × Int × Int × (List α) × Unit → Option ρ :=
  fun (v31, v32, v33, o34, _) => 
  (bif decide ((v32 : Int) < v33) then 
  (ix o34 v31).bind fun _ => 
  ((o34)[(v31 : Int).toNat]?).bind fun e37 => 
  (ix o34 (IntKind.wrap .i64 (bshr .u64 (IntKind.wrap .u64 (IntKind.wrap .i64 (v32 + v33))) 1))).bind fun _ => 
  ((o34)[(IntKind.wrap .i64 (bshr .u64 (IntKind.wrap .u64 (IntKind.wrap .i64 (v32 + v33))) 1) : Int).toNat]?).bind fun e38 => 
  (cmp n (e37, e38, ())).bind fun (y39, _) => 
  (bif !(decide ((y39 : Int) < 0)) then rec (v31, IntKind.wrap .i64 ((IntKind.wrap .i64 (bshr .u64 (IntKind.wrap .u64 (IntKind.wrap .i64 (v32 + v33))) 1)) + 1), v33, o34, ())
  else rec (v31, v32, IntKind.wrap .i64 (bshr .u64 (IntKind.wrap .u64 (IntKind.wrap .i64 (v32 + v33))) 1), o34, ()))
  else kx (v31, v32, o34, ()))

noncomputable def G_sM_s6 {α : Type} {ρ : Type} (self_G_sM : Int × Int × Int × (List α) × Unit → Option ((List α) × Unit)) (n : Nat) (rec : Int × Int × (List α) × Unit → Option ρ) (kx : (List α) × Unit → Option ρ) (kr : Unit → Option ρ) : Int × Int × (List α) × Unit → Option ρ :=
  fun (v43, v44, o45, _) => 
  (bif decide ((v44 : Int) > v43) then 
  (ix o45 (IntKind.wrap .i64 (v44 - 1))).bind fun _ => 
  ((o45)[(IntKind.wrap .i64 (v44 - 1) : Int).toNat]?).bind fun e50 => 
  (ix o45 v44).bind fun _ => 
  ((o45)[(v44 : Int).toNat]?).bind fun e51 => 
  (ix o45 v44).bind fun _ => 
  ((o45)[(v44 : Int).toNat]?).bind fun e52 => 
  (ix ((o45).set ((v44 : Int).toNat) e50) (IntKind.wrap .i64 (v44 - 1))).bind fun _ => 
  (((o45).set ((v44 : Int).toNat) e50)[(IntKind.wrap .i64 (v44 - 1) : Int).toNat]?).bind fun e53 => rec (v43, IntKind.wrap .i64 (v44 - 1), ((o45).set ((v44 : Int).toNat) e50).set ((IntKind.wrap .i64 (v44 - 1) : Int).toNat) e51, ())
  else kx (o45, ()))

noncomputable def G_sM_s8 {α : Type} (cmp : Nat → α × α × Unit → Option (Int × Unit)) {ρ : Type} (self_G_sM : Int × Int × Int × (List α) × Unit → Option ((List α) × Unit)) (n : Nat) (rec : Int × Int × Int × Int × Int × Int × Int × Int × (List α) × Unit → Option ρ) (kx : Int × Int × Int × Int × Int × Int × (List α) × Unit → Option ρ) (kr : Unit → Option ρ) : Int × Int × Int × Int × Int × Int × Int × Int × (List α) × Unit → Option ρ :=
  fun (v57, v58, v59, v60, v61, v62, v63, v64, o65, _) => 
  (bif decide ((v62 : Int) < v63) then 
  (ix o65 (IntKind.wrap .i64 (v64 - (IntKind.wrap .i64 (bshr .u64 (IntKind.wrap .u64 (IntKind.wrap .i64 (v62 + v63))) 1))))).bind fun _ => 
  ((o65)[(IntKind.wrap .i64 (v64 - (IntKind.wrap .i64 (bshr .u64 (IntKind.wrap .u64 (IntKind.wrap .i64 (v62 + v63))) 1))) : Int).toNat]?).bind fun e68 => 
  (ix o65 (IntKind.wrap .i64 (bshr .u64 (IntKind.wrap .u64 (IntKind.wrap .i64 (v62 + v63))) 1))).bind fun _ => 
  ((o65)[(IntKind.wrap .i64 (bshr .u64 (IntKind.wrap .u64 (IntKind.wrap .i64 (v62 + v63))) 1) : Int).toNat]?).bind fun e69 => 
  (cmp n (e68, e69, ())).bind fun (y70, _) => 
  (bif !(decide ((y70 : Int) < 0)) then rec (v57, v58, v59, v60, v61, IntKind.wrap .i64 ((IntKind.wrap .i64 (bshr .u64 (IntKind.wrap .u64 (IntKind.wrap .i64 (v62 + v63))) 1)) + 1), v63, v64, o65, ())
  else rec (v57, v58, v59, v60, v61, v62, IntKind.wrap .i64 (bshr .u64 (IntKind.wrap .u64 (IntKind.wrap .i64 (v62 + v63))) 1), v64, o65, ()))
  else kx (v57, v58, v59, v60, v61, v62, o65, ()))

noncomputable def G_sM_b {α : Type} (cmp : Nat → α × α × Unit → Option (Int × Unit)) (self_G_sM : Int × Int × Int × (List α) × Unit → Option ((List α) × Unit)) (n : Nat) : Int × Int × Int × (List α) × Unit → Option ((List α) × Unit) :=
  fun (a1, a2, a3, o4, _) => 
  (bif (IntKind.wrap .i64 (a2 - a1) : Int) == 1 then 
  iterN (fun rc30 => G_sM_s0 cmp self_G_sM n rc30 (fun (v14, v15, o16, _) => 
  iterN (fun rc29 => G_sM_s2 self_G_sM n rc29 (fun (o28, _) => some (o28, ())) (fun (_) => none)) (n) (v15, v14, o16, ())) (fun (_) => none)) (n) (a1, a2, a3, o4, ())
  else 
  (bif (IntKind.wrap .i64 (a3 - a2) : Int) == 1 then 
  iterN (fun rc56 => G_sM_s4 cmp self_G_sM n rc56 (fun (v40, v41, o42, _) => 
  iterN (fun rc55 => G_sM_s6 self_G_sM n rc55 (fun (o54, _) => some (o54, ())) (fun (_) => none)) (n) (v41, v40, o42, ())) (fun (_) => none)) (n) (a2, a1, a2, o4, ())
  else 
  (bif decide ((a2 : Int) > (IntKind.wrap .i64 (bshr .u64 (IntKind.wrap .u64 (IntKind.wrap .i64 (a1 + a3))) 1))) then 
  iterN (fun rc85 => G_sM_s8 cmp self_G_sM n rc85 (fun (v71, v72, v73, v74, v75, v76, o77, _) => 
  (bif (decide ((v76 : Int) < v72)) && (decide ((v72 : Int) < (IntKind.wrap .i64 (v75 - v76)))) then 
  (G_rotate n (v76, v72, IntKind.wrap .i64 (v75 - v76), o77, ())).bind fun (o78, _) => 
  (bif (decide ((v71 : Int) < v76)) && (decide ((v76 : Int) < v74)) then 
  (self_G_sM (v71, v76, v74, o78, ())).bind fun (o79, _) => 
  (bif (decide ((v74 : Int) < (IntKind.wrap .i64 (v75 - v76)))) && (decide ((IntKind.wrap .i64 (v75 - v76) : Int) < v73)) then 
  (self_G_sM (v74, IntKind.wrap .i64 (v75 - v76), v73, o79, ())).bind fun (o80, _) => some (o80, ())
  else some (o79, ()))
  else 
  (bif (decide ((v74 : Int) < (IntKind.wrap .i64 (v75 - v76)))) && (decide ((IntKind.wrap .i64 (v75 - v76) : Int) < v73)) then 
  (self_G_sM (v74, IntKind.wrap .i64 (v75 - v76), v73, o78, ())).bind fun (o81, _) => some (o81, ())
  else some (o78, ())))
  else 
  (bif (decide ((v71 : Int) < v76)) && (decide ((v76 : Int) < v74)) then 
  (self_G_sM (v71, v76, v74, o77, ())).bind fun (o82, _) => 
  (bif (decide ((v74 : Int) < (IntKind.wrap .i64 (v75 - v76)))) && (decide ((IntKind.wrap .i64 (v75 - v76) : Int) < v73)) then 
  (self_G_sM (v74, IntKind.wrap .i64 (v75 - v76), v73, o82, ())).bind fun (o83, _) => some (o83, ())
  else some (o82, ()))
  else 
  (bif (decide ((v74 : Int) < (IntKind.wrap .i64 (v75 - v76)))) && (decide ((IntKind.wrap .i64 (v75 - v76) : Int) < v73)) then 
  (self_G_sM (v74, IntKind.wrap .i64 (v75 - v76), v73, o77, ())).bind fun (o84, _) => some (o84, ())
  else some (o77, ()))))) (fun (_) => none)) (n) (a1, a2, a3, IntKind.wrap .i64 (bshr .u64 (IntKind.wrap .u64 (IntKind.wrap .i64 (a1 + a3))) 1), IntKind.wrap .i64 ((IntKind.wrap .i64 (bshr .u64 (IntKind.wrap .u64 (IntKind.wrap .i64 (a1 + a3))) 1)) + a2), IntKind.wrap .i64 ((IntKind.wrap .i64 ((IntKind.wrap .i64 (bshr .u64 (IntKind.wrap .u64 (IntKind.wrap .i64 (a1 + a3))) 1)) + a2)) - a3), IntKind.wrap .i64 (bshr .u64 (IntKind.wrap .u64 (IntKind.wrap .i64 (a1 + a3))) 1), IntKind.wrap .i64 ((IntKind.wrap .i64 ((IntKind.wrap .i64 (bshr .u64 (IntKind.wrap .u64 (IntKind.wrap .i64 (a1 + a3))) 1)) + a2)) - 1), o4, ())
  else 
  iterN (fun rc100 => G_sM_s8 cmp self_G_sM n rc100 (fun (v86, v87, v88, v89, v90, v91, o92, _) => 
  (bif (decide ((v91 : Int) < v87)) && (decide ((v87 : Int) < (IntKind.wrap .i64 (v90 - v91)))) then 
  (G_rotate n (v91, v87, IntKind.wrap .i64 (v90 - v91), o92, ())).bind fun (o93, _) => 
  (bif (decide ((v86 : Int) < v91)) && (decide ((v91 : Int) < v89)) then 
  (self_G_sM (v86, v91, v89, o93, ())).bind fun (o94, _) => 
  (bif (decide ((v89 : Int) < (IntKind.wrap .i64 (v90 - v91)))) && (decide ((IntKind.wrap .i64 (v90 - v91) : Int) < v88)) then 
  (self_G_sM (v89, IntKind.wrap .i64 (v90 - v91), v88, o94, ())).bind fun (o95, _) => some (o95, ())
  else some (o94, ()))
  else 
  (bif (decide ((v89 : Int) < (IntKind.wrap .i64 (v90 - v91)))) && (decide ((IntKind.wrap .i64 (v90 - v91) : Int) < v88)) then 
  (self_G_sM (v89, IntKind.wrap .i64 (v90 - v91), v88, o93, ())).bind fun (o96, _) => some (o96, ())
  else some (o93, ())))
  else 
  (bif (decide ((v86 : Int) < v91)) && (decide ((v91 : Int) < v89)) then 
  (self_G_sM (v86, v91, v89, o92, ())).bind fun (o97, _) => 
  (bif (decide ((v89 : Int) < (IntKind.wrap .i64 (v90 - v91)))) && (decide ((IntKind.wrap .i64 (v90 - v91) : Int) < v88)) then 
  (self_G_sM (v89, IntKind.wrap .i64 (v90 - v91), v88, o97, ())).bind fun (o98, _) => some (o98, ())
  else some (o97, ()))
  else 
  (bif (decide ((v89 : Int) < (IntKind.wrap .i64 (v90 - v91)))) && (decide ((IntKind.wrap .i64 (v90 - v91) : Int) < v88)) then 
  (self_G_sM (v89, IntKind.wrap .i64 (v90 - v91), v88, o92, ())).bind fun (o99, _) => some (o99, ())
  else some (o92, ()))))) (fun (_) => none)) (n) (a1, a2, a3, IntKind.wrap .i64 (bshr .u64 (IntKind.wrap .u64 (IntKind.wrap .i64 (a1 + a3))) 1), IntKind.wrap .i64 ((IntKind.wrap .i64 (bshr .u64 (IntKind.wrap .u64 (IntKind.wrap .i64 (a1 + a3))) 1)) + a2), a1, a2, IntKind.wrap .i64 ((IntKind.wrap .i64 ((IntKind.wrap .i64 (bshr .u64 (IntKind.wrap .u64 (IntKind.wrap .i64 (a1 + a3))) 1)) + a2)) - 1), o4, ()))))

noncomputable def G_sM {α : Type} (cmp : Nat → α × α × Unit → Option (Int × Unit)) : Nat → Int × Int × Int × (List α) × Unit → Option ((List α) × Unit)
  | 0, _ => none
  | n + 1, x => G_sM_b cmp (G_sM cmp n) n x

noncomputable def G_stable_s0 {α : Type} (cmp : Nat → α × α × Unit → Option (Int × Unit)) {ρ : Type} (n : Nat) (rec : Int × Int × Int × Int × (List α) × Unit → Option ρ) (kx : Int × Int × Int × (List α) × Unit → Option ρ) (kr : Unit → Option ρ) : Int × Int × Int × Int × (List α) × Unit → Option ρ :=
  fun (v3, v4, v5, v6, o7, _) => 
  (bif decide ((v6 : Int) ≤ v3) then 
  (G_iS cmp n (v5, v6, o7, ())).bind fun (o8, _) => rec (v3, v4, v6, IntKind.wrap .i64 (v6 + v4), o8, ())
  else kx (v3, v4, v5, o7, ()))

noncomputable def G_stable_s4 {α : Type} (cmp : Nat → α × α × Unit → Option (Int × Unit)) {ρ : Type} (n : Nat) (rec : Int × Int × Int × Int × (List α) × Unit → Option ρ) (kx : Int × Int × Int × (List α) × Unit → Option ρ) (kr : Unit → Option ρ) : Int × Int × Int × Int × (List α) × Unit → Option ρ :=
  fun (v17, v18, v19, v20, o21, _) => 
  (bif decide ((v20 : Int) ≤ v17) then 
  (G_sM cmp n (v19, IntKind.wrap .i64 (v19 + v18), v20, o21, ())).bind fun (o22, _) => rec (v17, v18, v20, IntKind.wrap .i64 (v20 + (IntKind.wrap .i64 (2 * v18))), o22, ())
  else kx (v17, v18, v19, o21, ()))

noncomputable def G_stable_s2 {α : Type} (cmp : Nat → α × α × Unit → Option (Int × Unit)) {ρ : Type} (n : Nat) (rec : Int × Int × (List α) × Unit → Option ρ) (kx : (List α) × Unit → Option ρ) (kr : Unit → Option ρ) : Int × Int × (List α) × Unit → Option ρ :=
  fun (v14, v15, o16, _) => 
  (bif decide ((v15 : Int) < v14) then 
  iterN (fun rc28 => G_stable_s4 cmp n rc28 (fun (v23, v24, v25, o26, _) => 
  (bif decide ((IntKind.wrap .i64 (v25 + v24) : Int) < v23) then 
  (G_sM cmp n (v25, IntKind.wrap .i64 (v25 + v24), v23, o26, ())).bind fun (o27, _) => rec (v23, IntKind.wrap .i64 (v24 * 2), o27, ())
  else rec (v23, IntKind.wrap .i64 (v24 * 2), o26, ()))) (fun (_) => none)) (n) (v14, v15, 0, IntKind.wrap .i64 (2 * v15), o16, ())
  else kx (o16, ()))

noncomputable def G_stable {α : Type} (cmp : Nat → α × α × Unit → Option (Int × Unit)) (n : Nat) : Int × (List α) × Unit → Option ((List α) × Unit) :=
  fun (a1, o2, _) => 
  iterN (fun rc31 => G_stable_s0 cmp n rc31 (fun (v9, v10, v11, o12, _) => 
  (G_iS cmp n (v11, v9, o12, ())).bind fun (o13, _) => 
  iterN (fun rc30 => G_stable_s2 cmp n rc30 (fun (o29, _) => some (o29, ())) (fun (_) => none)) (n) (v9, v10, o13, ())) (fun (_) => none)) (n) (a1, 20, 0, 20, o2, ())

noncomputable def G_SortStableFunc {α : Type} (cmp : Nat → α × α × Unit → Option (Int × Unit)) (n : Nat) : (List α) × Unit → Option ((List α) × Unit) :=
  fun (o1, _) => 
  (G_stable cmp n ((o1.length : Int), o1, ())).bind fun (o2, _) => some (o2, ())
end Pure

/- The sorts of package slices: insertion, exchange, turning. No program. -/
namespace Pure
open Esp Ev Go
set_option linter.unusedSimpArgs false
set_option linter.unusedVariables false

section
variable {α : Type}
theorem at_mid {d l r : List α} {x : α} {i : Nat} (h : d = l ++ x :: r) (hi : i = l.length) : d[i]? = some x := by subst h; subst hi; simp
theorem ix_mid {d l r : List α} {x : α} {i : Nat} (h : d = l ++ x :: r) (hi : i = l.length) : ix d (i : Int) = some x := ix_ok (at_mid h hi)
theorem set_mid {d l r : List α} {x : α} {i : Nat} (y : α) (h : d = l ++ x :: r) (hi : i = l.length) : d.set i y = l ++ y :: r := by subst h; subst hi; simp
theorem wadd {a b : Nat} (h : a + b ≤ 4000000000) : IntKind.wrap .i64 ((a : Int) + (b : Int)) = ((a + b : Nat) : Int) := by rw [wrap64 (by omega) (by omega)]; omega
theorem wadd1 {a : Nat} (h : a ≤ 4000000000) : IntKind.wrap .i64 ((a : Int) + 1) = ((a + 1 : Nat) : Int) := by rw [wrap64 (by omega) (by omega)]; omega
theorem wsub {a b c : Nat} (h : a = c + b) (hc : a ≤ 4000000000) : IntKind.wrap .i64 ((a : Int) - (b : Int)) = (c : Int) := by rw [wrap64 (by omega) (by omega)]; omega
theorem wsub1 {a c : Nat} (h : a = c + 1) (hc : a ≤ 4000000000) : IntKind.wrap .i64 ((a : Int) - 1) = (c : Int) := by rw [wrap64 (by omega) (by omega)]; omega
theorem tnat (a : Nat) : ((a : Nat) : Int).toNat = a := rfl

/-- the inner loop: what is carried goes ahead of all that it is ahead of -/
theorem ins_inner (cmp : Nat → α × α × Unit → Option (Int × Unit)) (c : α → α → Int) (n : Nat) (b i : Int) (p : List α) (x : α) {ρ : Type} (kx : Int × Int × Int × (List α) × Unit → Option ρ) (kr : Unit → Option ρ) :
    ∀ (k : Nat) (s r : List α) (fuel : Nat), s.length = k → (∀ z ∈ s, cmp n (x, z, ()) = some (c x z, ())) → p.length + s.length + r.length ≤ 1000000000 → s.length < fuel →
    ∃ u v, s = u ++ v ∧ (∀ z ∈ v, c x z < 0) ∧ (∀ u' z, u = u' ++ [z] → ¬ c x z < 0) ∧
      iterN (fun rc => G_iS_s2 cmp n rc kx kr) fuel ((p.length : Int), b, i, ((p.length + s.length : Nat) : Int), p ++ s ++ x :: r, ()) = kx ((p.length : Int), b, i, p ++ u ++ x :: (v ++ r), ()) := by
  intro k
  induction k with
  | zero =>
    intro s r fuel hk hc hl hf
    have : s = [] := List.length_eq_zero_iff.1 hk
    subst this
    obtain ⟨m, rfl⟩ : ∃ m, fuel = m + 1 := ⟨fuel - 1, by omega⟩
    refine ⟨[], [], rfl, by simp, by simp, ?_⟩
    have e : decide (((p.length + ([] : List α).length : Nat) : Int) > (p.length : Int)) = false := by simp
    simp only [iterN, G_iS_s2, e, cond_false, List.nil_append]
  | succ k ih =>
    intro s r fuel hk hc hl hf
    obtain ⟨m, rfl⟩ : ∃ m, fuel = m + 1 := ⟨fuel - 1, by omega⟩
    rcases List.eq_nil_or_concat s with rfl | ⟨t, z, hs⟩
    · simp at hk
    rw [List.concat_eq_append] at hs
    subst hs
    have hk' : t.length = k := by simpa using hk
    have hl' : p.length + (t.length + 1) + r.length ≤ 1000000000 := by simpa using hl
    have hcz : cmp n (x, z, ()) = some (c x z, ()) := hc z (by simp)
    have hd1 : p ++ (t ++ [z]) ++ x :: r = (p ++ t ++ [z]) ++ x :: r := by simp
    have hd0 : p ++ (t ++ [z]) ++ x :: r = (p ++ t) ++ z :: x :: r := by simp
    have hj : p.length + (t ++ [z]).length = p.length + t.length + 1 := by simp; omega
    have e : decide (((p.length + t.length + 1 : Nat) : Int) > (p.length : Int)) = true := by simp; omega
    have ew : IntKind.wrap .i64 (((p.length + t.length + 1 : Nat) : Int) - 1) = ((p.length + t.length : Nat) : Int) := wsub1 rfl (by omega)
    have i1 : p.length + t.length + 1 = (p ++ t ++ [z]).length := by simp; omega
    have i0 : p.length + t.length = (p ++ t).length := by simp
    have s1 := set_mid z hd1 i1
    have hd2 : (p ++ t ++ [z]) ++ z :: r = (p ++ t) ++ z :: z :: r := by simp
    have s2 := set_mid x hd2 i0
    rw [hj]
    simp only [iterN, G_iS_s2, e, cond_true, ew, tnat, ix_mid hd1 i1, at_mid hd1 i1, ix_mid hd0 i0, at_mid hd0 i0, Option.bind_some, hcz]
    cases hb : decide (c x z < 0) with
    | true =>
      simp only [cond_true, s1, ix_mid hd2 i0, at_mid hd2 i0, Option.bind_some, s2]
      obtain ⟨u, v, h1, h2, h3, h4⟩ := ih t (z :: r) m hk' (fun y hy => hc y (by simp [hy])) (by simp; omega) (by simp at hf; omega)
      refine ⟨u, v ++ [z], by rw [h1]; simp, ?_, h3, ?_⟩
      · intro y hy
        rcases List.mem_append.1 hy with hy | hy
        · exact h2 y hy
        · rw [List.mem_singleton.1 hy]; exact of_decide_eq_true hb
      · rw [h4]; simp
    | false =>
      simp only [cond_false]
      refine ⟨t ++ [z], [], by simp, by simp, ?_, by simp⟩
      intro u' y hy
      have : z = y := by
        have := congrArg List.getLast? hy
        simpa using this
      subst this
      exact of_decide_eq_false hb

/-- what a comparison must be, for things of a kind -/
structure Cmp (cmp : Nat → α × α × Unit → Option (Int × Unit)) (c : α → α → Int) (D : α → Prop) (K : Nat) : Prop where
  ok : ∀ n, K ≤ n → ∀ x y, D x → D y → cmp n (x, y, ()) = some (c x y, ())
  asy : ∀ x y, D x → D y → c x y < 0 → ¬ c y x < 0
  tr : ∀ x y z, D x → D y → D z → ¬ c y x < 0 → ¬ c z y < 0 → ¬ c z x < 0
abbrev Sorted (c : α → α → Int) (l : List α) : Prop := l.Pairwise fun x y => ¬ c y x < 0
variable {cmp : Nat → α × α × Unit → Option (Int × Unit)} {c : α → α → Int} {D : α → Prop} {K : Nat}
theorem Cmp.refl (H : Cmp cmp c D K) {x : α} (h : D x) : ¬ c x x < 0 := fun hx => H.asy x x h h hx hx
theorem sorted_ins (H : Cmp cmp c D K) {u v : List α} {x : α} (hs : Sorted c (u ++ v)) (hD : ∀ z ∈ u ++ v, D z) (hx : D x) (h1 : ∀ z ∈ v, c x z < 0) (h2 : ∀ u' z, u = u' ++ [z] → ¬ c x z < 0) : Sorted c (u ++ x :: v) := by
  unfold Sorted at hs ⊢
  rw [List.pairwise_append] at hs ⊢
  obtain ⟨hu, hv, huv⟩ := hs
  refine ⟨hu, List.pairwise_cons.2 ⟨fun z hz => H.asy _ _ hx (hD z (by simp [hz])) (h1 z hz), hv⟩, fun a ha b hb => ?_⟩
  rcases List.mem_cons.1 hb with rfl | hb
  · rcases List.eq_nil_or_concat u with rfl | ⟨u', z, hz⟩
    · simp at ha
    · rw [List.concat_eq_append] at hz
      subst hz
      rcases List.mem_append.1 ha with ha' | ha'
      · have : ¬ c z a < 0 := (List.pairwise_append.1 hu).2.2 a ha' z (by simp)
        exact H.tr _ _ _ (hD a (by simp [ha'])) (hD z (by simp)) hx this (h2 u' z rfl)
      · rw [List.mem_singleton.1 ha']; exact h2 u' z rfl
  · exact huv a ha b hb
theorem ins_outer (H : Cmp cmp c D K) (n : Nat) (hn : K ≤ n) (p : List α) {ρ : Type} (kx : (List α) × Unit → Option ρ) (kr : Unit → Option ρ) :
    ∀ (t s q : List α) (fuel : Nat), (∀ z ∈ s ++ t, D z) → Sorted c s → p.length + s.length + t.length + q.length ≤ 1000000000 → s.length + t.length < n → t.length < fuel →
    ∃ s', s'.Perm (s ++ t) ∧ Sorted c s' ∧
      iterN (fun rc => G_iS_s0 cmp n rc kx kr) fuel ((p.length : Int), ((p.length + s.length + t.length : Nat) : Int), ((p.length + s.length : Nat) : Int), p ++ s ++ t ++ q, ()) = kx (p ++ s' ++ q, ()) := by
  intro t
  induction t with
  | nil =>
    intro s q fuel hD hs hl hfn hf
    obtain ⟨m, rfl⟩ : ∃ m, fuel = m + 1 := ⟨fuel - 1, by simp at hf; omega⟩
    refine ⟨s, by simp, hs, ?_⟩
    have e : decide (((p.length + s.length : Nat) : Int) < ((p.length + s.length + ([] : List α).length : Nat) : Int)) = false := by simp
    simp only [iterN, G_iS_s0, e, cond_false, List.append_nil]
  | cons x t ih =>
    intro s q fuel hD hs hl hfn hf
    obtain ⟨m, rfl⟩ : ∃ m, fuel = m + 1 := ⟨fuel - 1, by simp at hf; omega⟩
    have e : decide (((p.length + s.length : Nat) : Int) < ((p.length + s.length + (x :: t).length : Nat) : Int)) = true := by simp; omega
    have hx : D x := hD x (by simp)
    simp only [iterN, G_iS_s0, e, cond_true]
    have hd : p ++ s ++ x :: t ++ q = p ++ s ++ x :: (t ++ q) := by simp
    rw [hd]
    obtain ⟨u, v, h1, h2, h3, h4⟩ := ins_inner cmp c n ((p.length + s.length + (x :: t).length : Nat) : Int) ((p.length + s.length : Nat) : Int) p x
      (fun (v24, v25, v26, o27, _) => iterN (fun rc => G_iS_s0 cmp n rc kx kr) m (v24, v25, IntKind.wrap .i64 (v26 + 1), o27, ())) (fun (_) => none) s.length s (t ++ q) n rfl
      (fun z hz => H.ok n hn x z hx (hD z (by simp [hz]))) (by simp at hl ⊢; omega) (by simp at hfn; omega)
    refine Exists.imp (fun s' h => ⟨?_, h.2.1, ?_⟩) (ih (u ++ x :: v) q m (fun z hz => hD z ?_) (sorted_ins H (h1 ▸ hs) (fun z hz => hD z (by rw [h1]; simp at hz ⊢; rcases hz with h | h <;> simp [h])) hx h2 h3) ?_ ?_ ?_)
    · refine h.1.trans ?_
      rw [h1]
      simp only [List.append_assoc, List.cons_append]
      refine List.Perm.append_left u ?_
      exact (List.perm_middle (l₁ := v)).symm
    · rw [h4]
      dsimp only
      have e1 : IntKind.wrap .i64 (((p.length + s.length : Nat) : Int) + 1) = ((p.length + (u ++ x :: v).length : Nat) : Int) := by
        rw [wadd1 (by omega), h1]; simp; omega
      have e2 : p.length + s.length + (x :: t).length = p.length + (u ++ x :: v).length + t.length := by rw [h1]; simp; omega
      have e3 : p ++ u ++ x :: (v ++ (t ++ q)) = p ++ (u ++ x :: v) ++ t ++ q := by simp
      rw [e1, e2, e3]
      exact h.2.2
    · rw [h1]; simp at hz ⊢; rcases hz with h | h | h | h <;> simp [h]
    · rw [h1] at hl; simp at hl ⊢; omega
    · rw [h1] at hfn; simp at hfn ⊢; omega
    · simp at hf; omega
/-- insertion sort of a part -/
theorem insertion_ok (H : Cmp cmp c D K) (n : Nat) (hn : K ≤ n) (p t q : List α) (hD : ∀ z ∈ t, D z) (hl : p.length + t.length + q.length ≤ 1000000000) (hf : t.length + 1 < n) :
    ∃ s, s.Perm t ∧ Sorted c s ∧ G_iS cmp n ((p.length : Int), ((p.length + t.length : Nat) : Int), p ++ t ++ q, ()) = some (p ++ s ++ q, ()) := by
  unfold G_iS
  dsimp only
  rw [wadd1 (by omega)]
  cases t with
  | nil =>
    obtain ⟨m, rfl⟩ : ∃ m, n = m + 1 := ⟨n - 1, by omega⟩
    refine ⟨[], by simp, List.Pairwise.nil, ?_⟩
    have e : decide (((p.length + 1 : Nat) : Int) < ((p.length + ([] : List α).length : Nat) : Int)) = false := by simp; omega
    simp only [iterN, G_iS_s0, e, cond_false]
  | cons x t =>
    obtain ⟨s, h1, h2, h3⟩ := ins_outer H n hn p (fun (o29, _) => some (o29, ())) (fun (_) => none) t [x] q n hD (by simp [Sorted]) (by simp at hl ⊢; omega) (by simp at hf ⊢; omega) (by simp at hf; omega)
    refine ⟨s, h1, h2, ?_⟩
    have e2 : p.length + (x :: t).length = p.length + [x].length + t.length := by simp; omega
    have e3 : p ++ x :: t ++ q = p ++ [x] ++ t ++ q := by simp
    rw [e2, e3]
    exact h3

/-! ## exchange, turning -/
theorem swap_loop (n : Nat) (p m q : List α) {ρ : Type} (kx : (List α) × Unit → Option ρ) (kr : Unit → Option ρ) : ∀ (u2 v2 u1 v1 : List α) (fuel : Nat), u1.length = v1.length → u2.length = v2.length →
    p.length + u1.length + u2.length + m.length + v1.length + v2.length + q.length ≤ 1000000000 → u2.length < fuel →
    iterN (fun rc => G_swapRange_s0 n rc kx kr) fuel ((p.length : Int), ((p.length + u1.length + u2.length + m.length : Nat) : Int), ((u1.length + u2.length : Nat) : Int), (u1.length : Int), p ++ v1 ++ u2 ++ m ++ u1 ++ v2 ++ q, ()) = kx (p ++ (v1 ++ v2) ++ m ++ (u1 ++ u2) ++ q, ()) := by
  intro u2
  induction u2 with
  | nil =>
    intro v2 u1 v1 fuel h1 h2 hl hf
    obtain ⟨k, rfl⟩ : ∃ k, fuel = k + 1 := ⟨fuel - 1, by simp at hf; omega⟩
    have : v2 = [] := List.length_eq_zero_iff.1 h2.symm
    subst this
    have e : decide ((u1.length : Int) < ((u1.length + ([] : List α).length : Nat) : Int)) = false := by simp
    simp only [iterN, G_swapRange_s0, e, cond_false]
    simp
  | cons x u2 ih =>
    intro v2 u1 v1 fuel h1 h2 hl hf
    obtain ⟨k, rfl⟩ : ∃ k, fuel = k + 1 := ⟨fuel - 1, by simp at hf; omega⟩
    cases v2 with
    | nil => simp at h2
    | cons y v2 =>
    have e : decide ((u1.length : Int) < ((u1.length + (x :: u2).length : Nat) : Int)) = true := by simp; omega
    have hl' : p.length + u1.length + (u2.length + 1) + m.length + v1.length + (v2.length + 1) + q.length ≤ 1000000000 := by simpa using hl
    have ea : IntKind.wrap .i64 ((p.length : Int) + (u1.length : Int)) = ((p.length + u1.length : Nat) : Int) := wadd (by omega)
    have eb : IntKind.wrap .i64 (((p.length + u1.length + (x :: u2).length + m.length : Nat) : Int) + (u1.length : Int)) = ((p.length + u1.length + (x :: u2).length + m.length + u1.length : Nat) : Int) := wadd (by simp; omega)
    have d1 : p ++ v1 ++ x :: u2 ++ m ++ u1 ++ y :: v2 ++ q = (p ++ v1 ++ x :: u2 ++ m ++ u1) ++ y :: (v2 ++ q) := by simp
    have d0 : p ++ v1 ++ x :: u2 ++ m ++ u1 ++ y :: v2 ++ q = (p ++ v1) ++ x :: (u2 ++ m ++ u1 ++ y :: v2 ++ q) := by simp
    have i1 : p.length + u1.length + (x :: u2).length + m.length + u1.length = (p ++ v1 ++ x :: u2 ++ m ++ u1).length := by simp; omega
    have i0 : p.length + u1.length = (p ++ v1).length := by simp; omega
    have s0 := set_mid y d0 i0
    have d2 : (p ++ v1) ++ y :: (u2 ++ m ++ u1 ++ y :: v2 ++ q) = (p ++ v1 ++ y :: u2 ++ m ++ u1) ++ y :: (v2 ++ q) := by simp
    have i2 : p.length + u1.length + (x :: u2).length + m.length + u1.length = (p ++ v1 ++ y :: u2 ++ m ++ u1).length := by simp; omega
    have s2 := set_mid x d2 i2
    simp only [iterN, G_swapRange_s0, e, cond_true, ea, eb, tnat, ix_mid d1 i1, at_mid d1 i1, ix_mid d0 i0, at_mid d0 i0, Option.bind_some, s0, ix_mid d2 i2, at_mid d2 i2, s2, wadd1 (show u1.length ≤ 4000000000 by omega)]
    have h := ih v2 (u1 ++ [x]) (v1 ++ [y]) k (by simp [h1]) (by simpa using h2) (by simp; omega) (by simp at hf; omega)
    have e1 : (u1 ++ [x]).length = u1.length + 1 := by simp
    have e2 : p.length + (u1 ++ [x]).length + u2.length + m.length = p.length + u1.length + (x :: u2).length + m.length := by simp; omega
    have e3 : (u1 ++ [x]).length + u2.length = u1.length + (x :: u2).length := by simp; omega
    have e4 : p ++ (v1 ++ [y]) ++ u2 ++ m ++ (u1 ++ [x]) ++ v2 ++ q = p ++ v1 ++ y :: u2 ++ m ++ u1 ++ x :: (v2 ++ q) := by simp
    have e5 : p ++ (v1 ++ [y] ++ v2) ++ m ++ (u1 ++ [x] ++ u2) ++ q = p ++ (v1 ++ y :: v2) ++ m ++ (u1 ++ x :: u2) ++ q := by simp
    rw [e2, e3, e4, e5, e1] at h
    exact h
theorem swap_ok (n : Nat) (p u m v q : List α) (h : u.length = v.length) (hl : p.length + u.length + m.length + v.length + q.length ≤ 1000000000) (hf : u.length < n) :
    G_swapRange n ((p.length : Int), ((p.length + u.length + m.length : Nat) : Int), (u.length : Int), p ++ u ++ m ++ v ++ q, ()) = some (p ++ v ++ m ++ u ++ q, ()) := by
  unfold G_swapRange
  have := swap_loop n p m q (fun (o18, _) => some (o18, ())) (fun (_) => none) u v [] [] n rfl h (by simp; omega) hf
  simpa using this
theorem rot_loop (n : Nat) {ρ : Type} (q0 : Int) (kr : Unit → Option ρ) (kx : Int × Int × (List α) × Unit → Option ρ) : ∀ (k : Nat) (p x y q : List α) (fuel : Nat), x.length + y.length ≤ k → x ≠ [] → y ≠ [] →
    p.length + x.length + y.length + q.length ≤ 1000000000 → x.length + y.length < n → x.length + y.length < fuel →
    ∃ p' x' y' q', x'.length = y'.length ∧ p' ++ y' ++ x' ++ q' = p ++ y ++ x ++ q ∧ p'.length + x'.length + y'.length + q'.length ≤ 1000000000 ∧ x'.length < n ∧
      iterN (fun rc => G_rotate_s0 n rc kx kr) fuel (((p.length + x.length : Nat) : Int), (x.length : Int), (y.length : Int), p ++ x ++ y ++ q, ()) = kx (((p'.length + x'.length : Nat) : Int), (x'.length : Int), p' ++ x' ++ y' ++ q', ()) := by
  intro k
  induction k with
  | zero => 
    intro p x y q fuel hk hx
    exact absurd (List.length_eq_zero_iff.1 (by omega)) hx
  | succ k ih =>
    intro p x y q fuel hk hx hy hl hn hf
    have hx' : 0 < x.length := List.length_pos_iff.2 hx
    have hy' : 0 < y.length := List.length_pos_iff.2 hy
    obtain ⟨m, rfl⟩ : ∃ m, fuel = m + 1 := ⟨fuel - 1, by omega⟩
    rcases Nat.lt_trichotomy x.length y.length with h | h | h
    · -- the first part is shorter
      have e : ((x.length : Int) != (y.length : Int)) = true := by simp; omega
      have e2 : decide ((x.length : Int) > (y.length : Int)) = false := by simp; omega
      obtain ⟨y1, y2, hy12, hy2⟩ : ∃ y1 y2, y = y1 ++ y2 ∧ y2.length = x.length := ⟨y.take (y.length - x.length), y.drop (y.length - x.length), by simp, by simp; omega⟩
      subst hy12
      have hlen : (y1 ++ y2).length = y1.length + y2.length := by simp
      rw [hlen] at h hl hn hf hk hy' e e2
      have w1 : IntKind.wrap .i64 (((p.length + x.length : Nat) : Int) - (x.length : Int)) = (p.length : Int) := wsub (by omega) (by omega)
      have w2 : IntKind.wrap .i64 (((p.length + x.length : Nat) : Int) + ((y1.length + y2.length : Nat) : Int)) = ((p.length + x.length + (y1.length + y2.length) : Nat) : Int) := wadd (by omega)
      have w3 : IntKind.wrap .i64 (((p.length + x.length + (y1.length + y2.length) : Nat) : Int) - (x.length : Int)) = ((p.length + x.length + y1.length : Nat) : Int) := wsub (by omega) (by omega)
      have w4 : IntKind.wrap .i64 (((y1.length + y2.length : Nat) : Int) - (x.length : Int)) = (y1.length : Int) := wsub (by omega) (by omega)
      have hsw := swap_ok n p x y1 y2 q hy2.symm (by omega) (by omega)
      have d1 : p ++ x ++ (y1 ++ y2) ++ q = p ++ x ++ y1 ++ y2 ++ q := by simp
      rw [hlen, d1]
      simp only [iterN, G_rotate_s0, e, e2, cond_true, cond_false, w1, w2, w3, w4, hsw, Option.bind_some]
      have hy1 : y1 ≠ [] := by intro h0; subst h0; simp at h; omega
      have hy2n : y2 ≠ [] := by intro h0; subst h0; simp at hy2; omega
      obtain ⟨p', x', y', q', a1, a2, a3, a4, a5⟩ := ih p y2 y1 (x ++ q) m (by omega) hy2n hy1 (by simp; omega) (by omega) (by omega)
      refine ⟨p', x', y', q', a1, a2.trans (by simp), a3, a4, ?_⟩
      have d2 : p ++ y2 ++ y1 ++ x ++ q = p ++ y2 ++ y1 ++ (x ++ q) := by simp
      rw [d2, ← hy2]
      exact a5
    · have e : ((x.length : Int) != (y.length : Int)) = false := by simp; omega
      refine ⟨p, x, y, q, h, rfl, hl, by omega, ?_⟩
      simp only [iterN, G_rotate_s0, e, cond_false]
    · have e : ((x.length : Int) != (y.length : Int)) = true := by simp; omega
      have e2 : decide ((x.length : Int) > (y.length : Int)) = true := by simp; omega
      obtain ⟨x1, x2, hx12, hx1⟩ : ∃ x1 x2, x = x1 ++ x2 ∧ x1.length = y.length := ⟨x.take y.length, x.drop y.length, by simp, by simp; omega⟩
      subst hx12
      have hlen : (x1 ++ x2).length = x1.length + x2.length := by simp
      rw [hlen] at h hl hn hf hk hx' e e2
      have w1 : IntKind.wrap .i64 (((p.length + (x1.length + x2.length) : Nat) : Int) - ((x1.length + x2.length : Nat) : Int)) = (p.length : Int) := wsub (by omega) (by omega)
      have w4 : IntKind.wrap .i64 (((x1.length + x2.length : Nat) : Int) - (y.length : Int)) = (x2.length : Int) := wsub (by omega) (by omega)
      have hsw := swap_ok n p x1 x2 y q hx1 (by omega) (by omega)
      have d1 : p ++ (x1 ++ x2) ++ y ++ q = p ++ x1 ++ x2 ++ y ++ q := by simp
      have l1 : p.length + (x1.length + x2.length) = p.length + x1.length + x2.length := by omega
      rw [hlen, d1]
      simp only [iterN, G_rotate_s0, e, e2, cond_true, w1, w4]
      rw [l1, ← hx1, hsw]
      simp only [Option.bind_some]
      have hx2n : x2 ≠ [] := by intro h0; subst h0; simp at h; omega
      have hx1n : x1 ≠ [] := by intro h0; subst h0; simp at hx1; omega
      obtain ⟨p', x', y', q', a1, a2, a3, a4, a5⟩ := ih (p ++ y) x2 x1 q m (by omega) hx2n hx1n (by simp; omega) (by omega) (by omega)
      refine ⟨p', x', y', q', a1, a2.trans (by simp), a3, a4, ?_⟩
      have l2 : p.length + x1.length + x2.length = (p ++ y).length + x2.length := by simp; omega
      rw [l2]
      exact a5
theorem rotate_ok (n : Nat) (p x y q : List α) (hx : x ≠ []) (hy : y ≠ []) (hl : p.length + x.length + y.length + q.length ≤ 1000000000) (hn : x.length + y.length < n) :
    G_rotate n ((p.length : Int), ((p.length + x.length : Nat) : Int), ((p.length + x.length + y.length : Nat) : Int), p ++ x ++ y ++ q, ()) = some (p ++ y ++ x ++ q, ()) := by
  unfold G_rotate
  dsimp only
  rw [wsub (a := p.length + x.length) (b := p.length) (c := x.length) (by omega) (by omega), wsub (a := p.length + x.length + y.length) (b := p.length + x.length) (c := y.length) (by omega) (by omega)]
  obtain ⟨p', x', y', q', a1, a2, a3, a4, a5⟩ := rot_loop n 0 (fun (_) => none) (fun (v11, v12, o13, _) => (G_swapRange n (IntKind.wrap .i64 (v11 - v12), v11, v12, o13, ())).bind fun (o14, _) => some (o14, ())) (x.length + y.length) p x y q n (Nat.le_refl _) hx hy hl hn (by omega)
  rw [a5]
  dsimp only
  rw [wsub (a := p'.length + x'.length) (b := x'.length) (c := p'.length) (by omega) (by omega)]
  have := swap_ok n p' x' [] y' q' a1 (by simp; omega) a4
  simp only [List.length_nil, Nat.add_zero, List.append_nil] at this
  rw [this, ← a2]
  rfl
end
end Pure

/- The sorts of package slices: merging in place. No program. -/
namespace Pure
open Esp Ev Go
set_option linter.unusedSimpArgs false
set_option linter.unusedVariables false

section
variable {α : Type} {cmp : Nat → α × α × Unit → Option (Int × Unit)} {c : α → α → Int} {D : α → Prop} {K : Nat}
theorem halfN {i j : Nat} (h : i + j ≤ 4000000000) : IntKind.wrap .i64 (bshr .u64 (IntKind.wrap .u64 (IntKind.wrap .i64 ((i : Int) + (j : Int)))) 1) = (((i + j) / 2 : Nat) : Int) := by
  rw [wrap64 (x := (i : Int) + (j : Int)) (by omega) (by omega), wrapU64 (x := (i : Int) + (j : Int)) (by omega) (by omega)]
  have : bshr .u64 ((i : Int) + (j : Int)) 1 = ((i : Int) + (j : Int)) / 2 := by
    unfold bshr
    rw [show (2 : Int) ^ (min (1 : Int).toNat IntKind.u64.bits) = 2 from rfl, Int.fdiv_eq_ediv_of_nonneg _ (by omega)]
  rw [this, wrap64 (by omega) (by omega)]
  omega
theorem at_in {d l y q : List α} (h : d = l ++ y ++ q) {i k : Nat} {z : α} (hz : y[k]? = some z) (hi : i = l.length + k) : d[i]? = some z := by
  subst h; subst hi
  have hk : k < y.length := (List.getElem?_eq_some_iff.1 hz).1
  rw [List.append_assoc, List.getElem?_append_right (by omega), show l.length + k - l.length = k by omega, List.getElem?_append_left hk]
  exact hz

/-- a search by halves -/
theorem bs_gen {ρ : Type} (L : Nat → Nat → Nat → Option ρ) (kx : Nat → Option ρ) (F : Nat → Bool) (lo hi : Nat)
    (hs : ∀ fuel i j, lo ≤ i → i < j → j ≤ hi → L (fuel + 1) i j = bif F ((i + j) / 2) then L fuel ((i + j) / 2 + 1) j else L fuel i ((i + j) / 2))
    (he : ∀ fuel i, lo ≤ i → i ≤ hi → L (fuel + 1) i i = kx i) (hm : ∀ h h', lo ≤ h → h ≤ h' → h' < hi → F h' = true → F h = true) :
    ∀ (fuel i j : Nat), lo ≤ i → i ≤ j → j ≤ hi → j - i < fuel → (∀ h, lo ≤ h → h < i → F h = true) → (∀ h, j ≤ h → h < hi → F h = false) →
      ∃ s, i ≤ s ∧ s ≤ j ∧ (∀ h, lo ≤ h → h < s → F h = true) ∧ (∀ h, s ≤ h → h < hi → F h = false) ∧ L fuel i j = kx s := by
  intro fuel
  induction fuel with
  | zero => intro i j h1 h2 h3 h4; omega
  | succ fuel ih =>
    intro i j h1 h2 h3 h4 h5 h6
    rcases Nat.lt_or_ge i j with hij | hij
    · rw [hs fuel i j h1 hij h3]
      cases hF : F ((i + j) / 2) with
      | true =>
        rw [cond_true]
        obtain ⟨s, a1, a2, a3, a4, a5⟩ := ih ((i + j) / 2 + 1) j (by omega) (by omega) h3 (by omega) (fun h b1 b2 => hm h ((i + j) / 2) b1 (by omega) (by omega) hF) h6
        exact ⟨s, by omega, a2, a3, a4, a5⟩
      | false =>
        rw [cond_false]
        obtain ⟨s, a1, a2, a3, a4, a5⟩ := ih i ((i + j) / 2) h1 (by omega) (by omega) (by omega) h5 (fun h b1 b2 => by
          cases hh : F h with
          | false => rfl
          | true => rw [hm ((i + j) / 2) h (by omega) b1 b2 hh] at hF; cases hF)
        exact ⟨s, a1, by omega, a3, a4, a5⟩
    · have : i = j := by omega
      subst this
      exact ⟨i, Nat.le_refl _, Nat.le_refl _, h5, h6, he fuel i h1 h3⟩

theorem shift_up (self) (n : Nat) (p r : List α) (x : α) {ρ : Type} (kx : (List α) × Unit → Option ρ) (kr : Unit → Option ρ) : ∀ (v u : List α) (fuel : Nat), p.length + u.length + v.length + r.length ≤ 1000000000 → v.length < fuel →
    iterN (fun rc => G_sM_s2 self n rc kx kr) fuel (((p.length + u.length + v.length + 1 : Nat) : Int), ((p.length + u.length : Nat) : Int), p ++ u ++ x :: (v ++ r), ()) = kx (p ++ (u ++ v) ++ x :: r, ()) := by
  intro v
  induction v with
  | nil =>
    intro u fuel hl hf
    obtain ⟨m, rfl⟩ : ∃ m, fuel = m + 1 := ⟨fuel - 1, by simp at hf; omega⟩
    have w : IntKind.wrap .i64 (((p.length + u.length + ([] : List α).length + 1 : Nat) : Int) - 1) = ((p.length + u.length : Nat) : Int) := wsub1 (by simp) (by simp at hl ⊢; omega)
    have e : decide (((p.length + u.length : Nat) : Int) < ((p.length + u.length : Nat) : Int)) = false := by simp
    simp only [iterN, G_sM_s2, w, e, cond_false, List.nil_append, List.append_nil]
  | cons y v ih =>
    intro u fuel hl hf
    obtain ⟨m, rfl⟩ : ∃ m, fuel = m + 1 := ⟨fuel - 1, by simp at hf; omega⟩
    have hl' : p.length + u.length + (v.length + 1) + r.length ≤ 1000000000 := by simpa using hl
    have w : IntKind.wrap .i64 (((p.length + u.length + (y :: v).length + 1 : Nat) : Int) - 1) = ((p.length + u.length + (v.length + 1) : Nat) : Int) := wsub1 (by simp) (by simp; omega)
    have e : decide (((p.length + u.length : Nat) : Int) < ((p.length + u.length + (v.length + 1) : Nat) : Int)) = true := by simp; omega
    have w1 : IntKind.wrap .i64 (((p.length + u.length : Nat) : Int) + 1) = ((p.length + u.length + 1 : Nat) : Int) := wadd1 (by omega)
    have d0 : p ++ u ++ x :: (y :: v ++ r) = (p ++ u) ++ x :: (y :: v ++ r) := rfl
    have d1 : p ++ u ++ x :: (y :: v ++ r) = (p ++ u ++ [x]) ++ y :: (v ++ r) := by simp
    have i0 : p.length + u.length = (p ++ u).length := by simp
    have i1 : p.length + u.length + 1 = (p ++ u ++ [x]).length := by simp; omega
    have s0 := set_mid y d0 i0
    have d2 : (p ++ u) ++ y :: (y :: v ++ r) = (p ++ u ++ [y]) ++ y :: (v ++ r) := by simp
    have i2 : p.length + u.length + 1 = (p ++ u ++ [y]).length := by simp; omega
    have s2 := set_mid x d2 i2
    simp only [iterN, G_sM_s2, w, e, cond_true, w1, tnat, ix_mid d1 i1, at_mid d1 i1, ix_mid d0 i0, at_mid d0 i0, Option.bind_some, s0, ix_mid d2 i2, at_mid d2 i2, s2]
    have h := ih (u ++ [y]) m (by simp; omega) (by simp at hf; omega)
    have e1 : p.length + (u ++ [y]).length + v.length + 1 = p.length + u.length + (y :: v).length + 1 := by simp; omega
    have e2 : p.length + (u ++ [y]).length = p.length + u.length + 1 := by simp; omega
    have e3 : p ++ (u ++ [y]) ++ x :: (v ++ r) = p ++ u ++ [y] ++ x :: (v ++ r) := by simp
    have e4 : p ++ (u ++ [y] ++ v) ++ x :: r = p ++ (u ++ y :: v) ++ x :: r := by simp
    rw [e1, e2, e3, e4] at h
    exact h
theorem shift_down (self) (n : Nat) (p : List α) (x : α) {ρ : Type} (kx : (List α) × Unit → Option ρ) (kr : Unit → Option ρ) : ∀ (k : Nat) (u v : List α) (r : List α) (fuel : Nat), u.length = k → p.length + u.length + r.length ≤ 1000000000 → u.length < fuel →
    iterN (fun rc => G_sM_s6 self n rc kx kr) fuel ((p.length : Int), ((p.length + u.length : Nat) : Int), p ++ u ++ x :: r, ()) = kx (p ++ x :: (u ++ r), ()) := by
  intro k
  induction k with
  | zero =>
    intro u v r fuel hk hl hf
    have : u = [] := List.length_eq_zero_iff.1 hk
    subst this
    obtain ⟨m, rfl⟩ : ∃ m, fuel = m + 1 := ⟨fuel - 1, by simp at hf; omega⟩
    have e : decide (((p.length + ([] : List α).length : Nat) : Int) > (p.length : Int)) = false := by simp
    simp only [iterN, G_sM_s6, e, cond_false, List.nil_append, List.append_nil]
  | succ k ih =>
    intro u v r fuel hk hl hf
    obtain ⟨m, rfl⟩ : ∃ m, fuel = m + 1 := ⟨fuel - 1, by omega⟩
    rcases List.eq_nil_or_concat u with rfl | ⟨t, z, hs⟩
    · simp at hk
    rw [List.concat_eq_append] at hs
    subst hs
    have hk' : t.length = k := by simpa using hk
    have hl' : p.length + (t.length + 1) + r.length ≤ 1000000000 := by simpa using hl
    have hd1 : p ++ (t ++ [z]) ++ x :: r = (p ++ t ++ [z]) ++ x :: r := by simp
    have hd0 : p ++ (t ++ [z]) ++ x :: r = (p ++ t) ++ z :: x :: r := by simp
    have hj : p.length + (t ++ [z]).length = p.length + t.length + 1 := by simp; omega
    have e : decide (((p.length + t.length + 1 : Nat) : Int) > (p.length : Int)) = true := by simp; omega
    have ew : IntKind.wrap .i64 (((p.length + t.length + 1 : Nat) : Int) - 1) = ((p.length + t.length : Nat) : Int) := wsub1 rfl (by omega)
    have i1 : p.length + t.length + 1 = (p ++ t ++ [z]).length := by simp; omega
    have i0 : p.length + t.length = (p ++ t).length := by simp
    have s1 := set_mid z hd1 i1
    have hd2 : (p ++ t ++ [z]) ++ z :: r = (p ++ t) ++ z :: z :: r := by simp
    have s2 := set_mid x hd2 i0
    rw [hj]
    simp only [iterN, G_sM_s6, e, cond_true, ew, tnat, ix_mid hd1 i1, at_mid hd1 i1, ix_mid hd0 i0, at_mid hd0 i0, Option.bind_some, s1, ix_mid hd2 i0, at_mid hd2 i0, s2]
    rw [ih t v (z :: r) m hk' (by simp; omega) (by simp at hf; omega)]
    simp

/-- what merging does, for parts of a length at most -/
def Merges (c : α → α → Int) (D : α → Prop) (f : Int × Int × Int × (List α) × Unit → Option ((List α) × Unit)) (L : Nat) : Prop :=
  ∀ p x y q : List α, x ≠ [] → y ≠ [] → Sorted c x → Sorted c y → (∀ z ∈ x ++ y, D z) → p.length + x.length + y.length + q.length ≤ 1000000000 → x.length + y.length ≤ L →
    ∃ z, z.Perm (x ++ y) ∧ Sorted c z ∧ f ((p.length : Int), ((p.length + x.length : Nat) : Int), ((p.length + x.length + y.length : Nat) : Int), p ++ x ++ y ++ q, ()) = some (p ++ z ++ q, ())

/-- one, and then many -/
theorem merge_one (H : Cmp cmp c D K) (self) (n : Nat) (hn : K ≤ n) (p y q : List α) (x : α) (hy : Sorted c y) (hD : ∀ z ∈ x :: y, D z) (hl : p.length + 1 + y.length + q.length ≤ 1000000000) (hf : y.length + 2 < n) :
    ∃ z, z.Perm (x :: y) ∧ Sorted c z ∧ iterN (fun rc30 => G_sM_s0 cmp self n rc30 (fun (v14, v15, o16, _) =>
      iterN (fun rc29 => G_sM_s2 self n rc29 (fun (o28, _) => some (o28, ())) (fun (_) => none)) (n) (v15, v14, o16, ())) (fun (_) => none)) (n) ((p.length : Int), ((p.length + 1 : Nat) : Int), ((p.length + 1 + y.length : Nat) : Int), p ++ x :: (y ++ q), ()) = some (p ++ z ++ q, ()) := by
  have hx : D x := hD x (by simp)
  have hdx : p ++ x :: (y ++ q) = p ++ x :: (y ++ q) := rfl
  have hdy : p ++ x :: (y ++ q) = (p ++ [x]) ++ y ++ q := by simp
  obtain ⟨s, a1, a2, a3, a4, a5⟩ := bs_gen (fun fuel i j => iterN (fun rc30 => G_sM_s0 cmp self n rc30 (fun (v14, v15, o16, _) =>
      iterN (fun rc29 => G_sM_s2 self n rc29 (fun (o28, _) => some (o28, ())) (fun (_) => none)) (n) (v15, v14, o16, ())) (fun (_) => none)) fuel ((p.length : Int), (i : Int), (j : Int), p ++ x :: (y ++ q), ()))
    (fun i => iterN (fun rc29 => G_sM_s2 self n rc29 (fun (o28, _) => some (o28, ())) (fun (_) => none)) (n) ((i : Int), (p.length : Int), p ++ x :: (y ++ q), ()))
    (fun h => match y[h - (p.length + 1)]? with | some z => decide (c z x < 0) | none => false) (p.length + 1) (p.length + 1 + y.length)
    (fun fuel i j h1 h2 h3 => by
      obtain ⟨z, hz⟩ : ∃ z, y[(i + j) / 2 - (p.length + 1)]? = some z := ⟨y[(i + j) / 2 - (p.length + 1)]'(by omega), by simp⟩
      have e : decide ((i : Int) < (j : Int)) = true := by simp; omega
      have hh := halfN (i := i) (j := j) (by omega)
      have g1 := at_in hdy hz (i := (i + j) / 2) (by simp; omega)
      have hDz : D z := hD z (by simp [List.mem_of_getElem? hz])
      dsimp only
      simp only [iterN, G_sM_s0, e, cond_true, hh, tnat, ix_ok g1, g1, ix_mid hdx rfl, at_mid hdx rfl, Option.bind_some, H.ok n hn z x hDz hx, hz, wadd1 (show (i + j) / 2 ≤ 4000000000 by omega)])
    (fun fuel i h1 h2 => by
      have e : decide ((i : Int) < (i : Int)) = false := by simp
      simp only [iterN, G_sM_s0, e, cond_false])
    (fun h h' h1 h2 h3 hF => by
      obtain ⟨z, hz⟩ : ∃ z, y[h - (p.length + 1)]? = some z := ⟨y[h - (p.length + 1)]'(by omega), by simp⟩
      obtain ⟨z', hz'⟩ : ∃ z, y[h' - (p.length + 1)]? = some z := ⟨y[h' - (p.length + 1)]'(by omega), by simp⟩
      rw [hz'] at hF
      rw [hz]
      dsimp only at hF ⊢
      have hF' := of_decide_eq_true hF
      rw [decide_eq_true_iff]
      have hle : ¬ c z' z < 0 := by
        rcases Nat.lt_or_ge (h - (p.length + 1)) (h' - (p.length + 1)) with hlt | hge
        · obtain ⟨k1, e1⟩ := List.getElem?_eq_some_iff.1 hz
          obtain ⟨k2, e2⟩ := List.getElem?_eq_some_iff.1 hz'
          have := List.pairwise_iff_getElem.1 hy _ _ k1 k2 hlt
          rw [e1, e2] at this
          exact this
        · have : h - (p.length + 1) = h' - (p.length + 1) := by omega
          rw [this, hz'] at hz
          cases hz
          exact H.refl (hD _ (by simp [List.mem_of_getElem? hz']))
      rcases Classical.em (c z x < 0) with h0 | h0
      · exact h0
      · exact absurd hF' (H.tr x z z' hx (hD z (by simp [List.mem_of_getElem? hz])) (hD z' (by simp [List.mem_of_getElem? hz'])) h0 hle))
    n (p.length + 1) (p.length + 1 + y.length) (Nat.le_refl _) (by omega) (Nat.le_refl _) (by omega) (fun h b1 b2 => by omega) (fun h b1 b2 => by omega)
  obtain ⟨v, w, hvw, hv⟩ : ∃ v w, y = v ++ w ∧ v.length = s - (p.length + 1) := ⟨y.take (s - (p.length + 1)), y.drop (s - (p.length + 1)), by simp, by simp; omega⟩
  have hvF : ∀ z ∈ v, c z x < 0 := fun z hz => by
    obtain ⟨k, hk, e⟩ := List.mem_iff_getElem.1 hz
    have := a3 (p.length + 1 + k) (by omega) (by omega)
    have hyk : y[p.length + 1 + k - (p.length + 1)]? = some z := by rw [show p.length + 1 + k - (p.length + 1) = k by omega, hvw, List.getElem?_append_left hk, ← e]; simp
    rw [hyk] at this
    exact of_decide_eq_true this
  have hwF : ∀ z ∈ w, ¬ c z x < 0 := fun z hz => by
    obtain ⟨k, hk, e⟩ := List.mem_iff_getElem.1 hz
    have hlen : y.length = v.length + w.length := by rw [hvw]; simp
    have := a4 (p.length + 1 + v.length + k) (by omega) (by omega)
    have hyk : y[p.length + 1 + v.length + k - (p.length + 1)]? = some z := by rw [show p.length + 1 + v.length + k - (p.length + 1) = v.length + k by omega, hvw, List.getElem?_append_right (by omega), show v.length + k - v.length = k by omega, ← e]; simp
    rw [hyk] at this
    exact of_decide_eq_false this
  subst hvw
  have hD' : ∀ z ∈ v ++ w, D z := fun z hz => hD z (by simp at hz ⊢; rcases hz with h | h <;> simp [h])
  refine ⟨v ++ x :: w, List.perm_middle, ?_, ?_⟩
  · unfold Sorted at hy ⊢
    rw [List.pairwise_append] at hy ⊢
    refine ⟨hy.1, List.pairwise_cons.2 ⟨fun z hz => hwF z hz, hy.2.1⟩, fun a ha b hb => ?_⟩
    rcases List.mem_cons.1 hb with rfl | hb
    · exact H.asy _ _ (hD' a (by simp [ha])) hx (hvF a ha)
    · exact hy.2.2 a ha b hb
  · refine a5.trans ?_
    have h := shift_up self n p (w ++ q) x (fun (o28, _) => some (o28, ())) (fun (_) => none) v [] n (by simp at hl ⊢; omega) (by simp at hf; omega)
    have e1 : p.length + ([] : List α).length + v.length + 1 = s := by simp; omega
    rw [e1] at h
    have e2 : p ++ [] ++ x :: (v ++ (w ++ q)) = p ++ x :: (v ++ w ++ q) := by simp
    rw [e2] at h
    refine h.trans ?_
    simp
/-- many, and then one -/
theorem merge_last (H : Cmp cmp c D K) (self) (n : Nat) (hn : K ≤ n) (p x q : List α) (y : α) (hy : Sorted c x) (hD : ∀ z ∈ x ++ [y], D z) (hl : p.length + 1 + x.length + q.length ≤ 1000000000) (hf : x.length + 2 < n) :
    ∃ z, z.Perm (x ++ [y]) ∧ Sorted c z ∧ iterN (fun rc56 => G_sM_s4 cmp self n rc56 (fun (v40, v41, o42, _) =>
      iterN (fun rc55 => G_sM_s6 self n rc55 (fun (o54, _) => some (o54, ())) (fun (_) => none)) (n) (v41, v40, o42, ())) (fun (_) => none)) (n) (((p.length + x.length : Nat) : Int), (p.length : Int), ((p.length + x.length : Nat) : Int), p ++ x ++ y :: q, ()) = some (p ++ z ++ q, ()) := by
  have hyD : D y := hD y (by simp)
  have hdy : p ++ x ++ y :: q = (p ++ x) ++ y :: q := rfl
  have hdx : p ++ x ++ y :: q = p ++ x ++ (y :: q) := rfl
  have iy : p.length + x.length = (p ++ x).length := by simp
  obtain ⟨s, a1, a2, a3, a4, a5⟩ := bs_gen (fun fuel i j => iterN (fun rc56 => G_sM_s4 cmp self n rc56 (fun (v40, v41, o42, _) =>
      iterN (fun rc55 => G_sM_s6 self n rc55 (fun (o54, _) => some (o54, ())) (fun (_) => none)) (n) (v41, v40, o42, ())) (fun (_) => none)) fuel (((p.length + x.length : Nat) : Int), (i : Int), (j : Int), p ++ x ++ y :: q, ()))
    (fun i => iterN (fun rc55 => G_sM_s6 self n rc55 (fun (o54, _) => some (o54, ())) (fun (_) => none)) (n) ((i : Int), ((p.length + x.length : Nat) : Int), p ++ x ++ y :: q, ()))
    (fun h => match x[h - p.length]? with | some z => !(decide (c y z < 0)) | none => false) p.length (p.length + x.length)
    (fun fuel i j h1 h2 h3 => by
      obtain ⟨z, hz⟩ : ∃ z, x[(i + j) / 2 - p.length]? = some z := ⟨x[(i + j) / 2 - p.length]'(by omega), by simp⟩
      have e : decide ((i : Int) < (j : Int)) = true := by simp; omega
      have hh := halfN (i := i) (j := j) (by omega)
      have g1 := at_in hdx hz (i := (i + j) / 2) (by omega)
      have hDz : D z := hD z (by simp [List.mem_of_getElem? hz])
      dsimp only
      simp only [iterN, G_sM_s4, e, cond_true, hh, tnat, ix_ok g1, g1, ix_mid hdy iy, at_mid hdy iy, Option.bind_some, H.ok n hn y z hyD hDz, hz, wadd1 (show (i + j) / 2 ≤ 4000000000 by omega)])
    (fun fuel i h1 h2 => by
      have e : decide ((i : Int) < (i : Int)) = false := by simp
      simp only [iterN, G_sM_s4, e, cond_false])
    (fun h h' h1 h2 h3 hF => by
      obtain ⟨z, hz⟩ : ∃ z, x[h - p.length]? = some z := ⟨x[h - p.length]'(by omega), by simp⟩
      obtain ⟨z', hz'⟩ : ∃ z, x[h' - p.length]? = some z := ⟨x[h' - p.length]'(by omega), by simp⟩
      rw [hz'] at hF
      rw [hz]
      dsimp only at hF ⊢
      simp only [Bool.not_eq_true', decide_eq_false_iff_not] at hF ⊢
      have hle : ¬ c z' z < 0 := by
        rcases Nat.lt_or_ge (h - p.length) (h' - p.length) with hlt | hge
        · obtain ⟨k1, e1⟩ := List.getElem?_eq_some_iff.1 hz
          obtain ⟨k2, e2⟩ := List.getElem?_eq_some_iff.1 hz'
          have := List.pairwise_iff_getElem.1 hy _ _ k1 k2 hlt
          rw [e1, e2] at this
          exact this
        · have : h - p.length = h' - p.length := by omega
          rw [this, hz'] at hz
          cases hz
          exact H.refl (hD _ (by simp [List.mem_of_getElem? hz']))
      exact H.tr z z' y (hD z (by simp [List.mem_of_getElem? hz])) (hD z' (by simp [List.mem_of_getElem? hz'])) hyD hle hF)
    n p.length (p.length + x.length) (Nat.le_refl _) (by omega) (Nat.le_refl _) (by omega) (fun h b1 b2 => by omega) (fun h b1 b2 => by omega)
  obtain ⟨v, w, hvw, hv⟩ : ∃ v w, x = v ++ w ∧ v.length = s - p.length := ⟨x.take (s - p.length), x.drop (s - p.length), by simp, by simp; omega⟩
  have hvF : ∀ z ∈ v, ¬ c y z < 0 := fun z hz => by
    obtain ⟨k, hk, e⟩ := List.mem_iff_getElem.1 hz
    have := a3 (p.length + k) (by omega) (by omega)
    have hyk : x[p.length + k - p.length]? = some z := by rw [show p.length + k - p.length = k by omega, hvw, List.getElem?_append_left hk, ← e]; simp
    rw [hyk] at this
    simpa using this
  have hwF : ∀ z ∈ w, c y z < 0 := fun z hz => by
    obtain ⟨k, hk, e⟩ := List.mem_iff_getElem.1 hz
    have hlen : x.length = v.length + w.length := by rw [hvw]; simp
    have := a4 (p.length + v.length + k) (by omega) (by omega)
    have hyk : x[p.length + v.length + k - p.length]? = some z := by rw [show p.length + v.length + k - p.length = v.length + k by omega, hvw, List.getElem?_append_right (by omega), show v.length + k - v.length = k by omega, ← e]; simp
    rw [hyk] at this
    simpa using this
  subst hvw
  have hD' : ∀ z ∈ v ++ w, D z := fun z hz => hD z (by simp at hz ⊢; rcases hz with h | h <;> simp [h])
  refine ⟨v ++ y :: w, ?_, ?_, ?_⟩
  · refine List.perm_middle.trans ?_
    exact (List.perm_append_comm (l₁ := [y]) (l₂ := v ++ w))
  · unfold Sorted at hy ⊢
    rw [List.pairwise_append] at hy ⊢
    refine ⟨hy.1, List.pairwise_cons.2 ⟨fun z hz => H.asy _ _ hyD (hD' z (by simp [hz])) (hwF z hz), hy.2.1⟩, fun a ha b hb => ?_⟩
    rcases List.mem_cons.1 hb with rfl | hb
    · exact hvF a ha
    · exact hy.2.2 a ha b hb
  · refine a5.trans ?_
    have h := shift_down self n (p ++ v) y (fun (o54, _) => some (o54, ())) (fun (_) => none) w.length w [] q n rfl (by simp at hl ⊢; omega) (by simp at hf; omega)
    have e1 : (p ++ v).length = s := by simp; omega
    have e3 : (p ++ v).length + w.length = p.length + (v ++ w).length := by simp; omega
    rw [e3] at h
    rw [e1] at h
    have e2 : p ++ v ++ w ++ y :: q = p ++ (v ++ w) ++ y :: q := by simp
    rw [e2] at h
    refine h.trans ?_
    simp
end
end Pure

/- The sorts of package slices: merging in place, and sorting. No program. -/
namespace Pure
open Esp Ev Go
set_option linter.unusedSimpArgs false
set_option linter.unusedVariables false

section
variable {α : Type} {cmp : Nat → α × α × Unit → Option (Int × Unit)} {c : α → α → Int} {D : α → Prop} {K : Nat}
/-- what is done behind the search -/
noncomputable def G_tail (self : Int × Int × Int × (List α) × Unit → Option ((List α) × Unit)) (n : Nat) : Int × Int × Int × Int × Int × Int × (List α) × Unit → Option ((List α) × Unit) :=
  fun (a, m, b, mid, nn, s, o, _) =>
  (bif (decide ((s : Int) < m)) && (decide ((m : Int) < (IntKind.wrap .i64 (nn - s)))) then G_rotate n (s, m, IntKind.wrap .i64 (nn - s), o, ()) else some (o, ())).bind fun (o1, _) =>
  (bif (decide ((a : Int) < s)) && (decide ((s : Int) < mid)) then self (a, s, mid, o1, ()) else some (o1, ())).bind fun (o2, _) =>
  (bif (decide ((mid : Int) < (IntKind.wrap .i64 (nn - s)))) && (decide ((IntKind.wrap .i64 (nn - s) : Int) < b)) then (self (mid, IntKind.wrap .i64 (nn - s), b, o2, ())).bind fun (o3, _) => some (o3, ()) else some (o2, ()))
noncomputable def G_tail0 (self_G_sM : Int × Int × Int × (List α) × Unit → Option ((List α) × Unit)) (n : Nat) : Int × Int × Int × Int × Int × Int × (List α) × Unit → Option ((List α) × Unit) :=
  fun (v71, v72, v73, v74, v75, v76, o77, _) => 
  (bif (decide ((v76 : Int) < v72)) && (decide ((v72 : Int) < (IntKind.wrap .i64 (v75 - v76)))) then 
  (G_rotate n (v76, v72, IntKind.wrap .i64 (v75 - v76), o77, ())).bind fun (o78, _) => 
  (bif (decide ((v71 : Int) < v76)) && (decide ((v76 : Int) < v74)) then 
  (self_G_sM (v71, v76, v74, o78, ())).bind fun (o79, _) => 
  (bif (decide ((v74 : Int) < (IntKind.wrap .i64 (v75 - v76)))) && (decide ((IntKind.wrap .i64 (v75 - v76) : Int) < v73)) then 
  (self_G_sM (v74, IntKind.wrap .i64 (v75 - v76), v73, o79, ())).bind fun (o80, _) => some (o80, ())
  else some (o79, ()))
  else 
  (bif (decide ((v74 : Int) < (IntKind.wrap .i64 (v75 - v76)))) && (decide ((IntKind.wrap .i64 (v75 - v76) : Int) < v73)) then 
  (self_G_sM (v74, IntKind.wrap .i64 (v75 - v76), v73, o78, ())).bind fun (o81, _) => some (o81, ())
  else some (o78, ())))
  else 
  (bif (decide ((v71 : Int) < v76)) && (decide ((v76 : Int) < v74)) then 
  (self_G_sM (v71, v76, v74, o77, ())).bind fun (o82, _) => 
  (bif (decide ((v74 : Int) < (IntKind.wrap .i64 (v75 - v76)))) && (decide ((IntKind.wrap .i64 (v75 - v76) : Int) < v73)) then 
  (self_G_sM (v74, IntKind.wrap .i64 (v75 - v76), v73, o82, ())).bind fun (o83, _) => some (o83, ())
  else some (o82, ()))
  else 
  (bif (decide ((v74 : Int) < (IntKind.wrap .i64 (v75 - v76)))) && (decide ((IntKind.wrap .i64 (v75 - v76) : Int) < v73)) then 
  (self_G_sM (v74, IntKind.wrap .i64 (v75 - v76), v73, o77, ())).bind fun (o84, _) => some (o84, ())
  else some (o77, ()))))
theorem tail_eq (self) (n : Nat) (x : Int × Int × Int × Int × Int × Int × (List α) × Unit) : G_tail0 self n x = G_tail self n x := by
  obtain ⟨a, m, b, mid, nn, s, o, u⟩ := x
  unfold G_tail0 G_tail
  dsimp only
  generalize ((decide ((s : Int) < m)) && (decide ((m : Int) < (IntKind.wrap .i64 (nn - s))))) = c1
  generalize ((decide ((a : Int) < s)) && (decide ((s : Int) < mid))) = c2
  generalize ((decide ((mid : Int) < (IntKind.wrap .i64 (nn - s)))) && (decide ((IntKind.wrap .i64 (nn - s) : Int) < b))) = c3
  cases c1 <;> cases c2 <;> cases c3 <;> rfl

/-- two parts, each of them sorted, none of the second ahead of one of the first -/
theorem sorted_append {u v : List α} (h1 : Sorted c u) (h2 : Sorted c v) (h : ∀ a ∈ u, ∀ b ∈ v, ¬ c b a < 0) : Sorted c (u ++ v) := List.pairwise_append.2 ⟨h1, h2, h⟩

theorem tail_ok (H : Cmp cmp c D K) {self} {L : Nat} (hS : Merges c D self L) (n : Nat) (p A1 A2 B1 B2 q : List α) (h1 : Sorted c (A1 ++ A2)) (h2 : Sorted c (B1 ++ B2)) (hD : ∀ z ∈ A1 ++ A2 ++ (B1 ++ B2), D z)
    (hab : ∀ a ∈ A1, ∀ b ∈ B2, ¬ c b a < 0) (hba : ∀ b ∈ B1, ∀ a ∈ A2, ¬ c a b < 0) (hl : p.length + A1.length + A2.length + B1.length + B2.length + q.length ≤ 1000000000)
    (hL1 : A1.length + B1.length ≤ L) (hL2 : A2.length + B2.length ≤ L) (hf : A1.length + A2.length + B1.length + B2.length < n) (mid : Nat) (hmid : mid = p.length + A1.length + B1.length) :
    ∃ z, z.Perm (A1 ++ A2 ++ (B1 ++ B2)) ∧ Sorted c z ∧ G_tail self n ((p.length : Int), ((p.length + A1.length + A2.length : Nat) : Int), ((p.length + A1.length + A2.length + B1.length + B2.length : Nat) : Int), (mid : Int), ((mid + (p.length + A1.length + A2.length) : Nat) : Int), ((p.length + A1.length : Nat) : Int), p ++ (A1 ++ A2) ++ (B1 ++ B2) ++ q, ()) = some (p ++ z ++ q, ()) := by
  unfold G_tail
  dsimp only
  have we : IntKind.wrap .i64 (((mid + (p.length + A1.length + A2.length) : Nat) : Int) - ((p.length + A1.length : Nat) : Int)) = ((p.length + A1.length + A2.length + B1.length : Nat) : Int) := wsub (by omega) (by omega)
  rw [we]
  have D1 : ∀ z ∈ A1, D z := fun z hz => hD z (by simp [hz])
  have D2 : ∀ z ∈ A2, D z := fun z hz => hD z (by simp [hz])
  have D3 : ∀ z ∈ B1, D z := fun z hz => hD z (by simp [hz])
  have D4 : ∀ z ∈ B2, D z := fun z hz => hD z (by simp [hz])
  obtain ⟨sA1, sA2, sA⟩ := List.pairwise_append.1 h1
  obtain ⟨sB1, sB2, sB⟩ := List.pairwise_append.1 h2
  -- turned
  have k1 : (bif (decide (((p.length + A1.length : Nat) : Int) < ((p.length + A1.length + A2.length : Nat) : Int))) && (decide (((p.length + A1.length + A2.length : Nat) : Int) < ((p.length + A1.length + A2.length + B1.length : Nat) : Int))) then
      G_rotate n (((p.length + A1.length : Nat) : Int), ((p.length + A1.length + A2.length : Nat) : Int), ((p.length + A1.length + A2.length + B1.length : Nat) : Int), p ++ (A1 ++ A2) ++ (B1 ++ B2) ++ q, ()) else some (p ++ (A1 ++ A2) ++ (B1 ++ B2) ++ q, ())) = some (p ++ A1 ++ B1 ++ A2 ++ B2 ++ q, ()) := by
    cases A2 with
    | nil => simp
    | cons a A2 => cases B1 with
      | nil => simp
      | cons b B1 =>
        have e : ((decide (((p.length + A1.length : Nat) : Int) < ((p.length + A1.length + (a :: A2).length : Nat) : Int))) && (decide (((p.length + A1.length + (a :: A2).length : Nat) : Int) < ((p.length + A1.length + (a :: A2).length + (b :: B1).length : Nat) : Int)))) = true := by simp; omega
        rw [e, cond_true]
        have := rotate_ok n (p ++ A1) (a :: A2) (b :: B1) (B2 ++ q) (by simp) (by simp) (by simp at hl ⊢; omega) (by simp at hf ⊢; omega)
        have e1 : (p ++ A1).length = p.length + A1.length := by simp
        rw [e1] at this
        have e2 : p ++ A1 ++ a :: A2 ++ b :: B1 ++ (B2 ++ q) = p ++ (A1 ++ a :: A2) ++ (b :: B1 ++ B2) ++ q := by simp
        rw [e2] at this
        rw [this]
        simp
  rw [k1, Option.bind_some]
  dsimp only
  -- the first half
  obtain ⟨z1, p1, s1, k2⟩ : ∃ z1, z1.Perm (A1 ++ B1) ∧ Sorted c z1 ∧ (bif (decide ((p.length : Int) < ((p.length + A1.length : Nat) : Int))) && (decide (((p.length + A1.length : Nat) : Int) < (mid : Int))) then self ((p.length : Int), ((p.length + A1.length : Nat) : Int), (mid : Int), p ++ A1 ++ B1 ++ A2 ++ B2 ++ q, ()) else some (p ++ A1 ++ B1 ++ A2 ++ B2 ++ q, ())) = some (p ++ z1 ++ A2 ++ B2 ++ q, ()) := by
    subst hmid
    cases A1 with
    | nil => exact ⟨B1, by simp, sB1, by simp⟩
    | cons a A1 => cases B1 with
      | nil => exact ⟨a :: A1, by simp, sA1, by simp⟩
      | cons b B1 =>
        obtain ⟨z, q1, q2, q3⟩ := hS p (a :: A1) (b :: B1) (A2 ++ B2 ++ q) (by simp) (by simp) sA1 sB1 (fun z hz => by rcases List.mem_append.1 hz with h | h; exact D1 z h; exact D3 z h) (by simp at hl ⊢; omega) hL1
        refine ⟨z, q1, q2, ?_⟩
        have e : ((decide ((p.length : Int) < ((p.length + (a :: A1).length : Nat) : Int))) && (decide (((p.length + (a :: A1).length : Nat) : Int) < ((p.length + (a :: A1).length + (b :: B1).length : Nat) : Int)))) = true := by simp; omega
        rw [e, cond_true]
        have e2 : p ++ a :: A1 ++ b :: B1 ++ A2 ++ B2 ++ q = p ++ a :: A1 ++ b :: B1 ++ (A2 ++ B2 ++ q) := by simp
        rw [e2, q3]
        simp
  rw [k2, Option.bind_some]
  dsimp only
  have lz1 : z1.length = A1.length + B1.length := by rw [p1.length_eq]; simp
  -- the second half
  obtain ⟨z2, p2, s2, k3⟩ : ∃ z2, z2.Perm (A2 ++ B2) ∧ Sorted c z2 ∧ (bif (decide ((mid : Int) < ((p.length + A1.length + A2.length + B1.length : Nat) : Int))) && (decide (((p.length + A1.length + A2.length + B1.length : Nat) : Int) < ((p.length + A1.length + A2.length + B1.length + B2.length : Nat) : Int))) then
      (self ((mid : Int), ((p.length + A1.length + A2.length + B1.length : Nat) : Int), ((p.length + A1.length + A2.length + B1.length + B2.length : Nat) : Int), p ++ z1 ++ A2 ++ B2 ++ q, ())).bind fun (o3, _) => some (o3, ()) else some (p ++ z1 ++ A2 ++ B2 ++ q, ())) = some (p ++ z1 ++ z2 ++ q, ()) := by
    subst hmid
    cases A2 with
    | nil =>
      refine ⟨B2, by simp, sB2, ?_⟩
      have e : (decide (((p.length + A1.length + B1.length : Nat) : Int) < ((p.length + A1.length + ([] : List α).length + B1.length : Nat) : Int))) = false := by simp
      rw [e, Bool.false_and, cond_false]
      simp
    | cons a A2 => cases B2 with
      | nil =>
        refine ⟨a :: A2, by simp, sA2, ?_⟩
        have e : (decide (((p.length + A1.length + (a :: A2).length + B1.length : Nat) : Int) < ((p.length + A1.length + (a :: A2).length + B1.length + ([] : List α).length : Nat) : Int))) = false := by simp
        rw [e, Bool.and_false, cond_false]
        simp
      | cons b B2 =>
        obtain ⟨z, q1, q2, q3⟩ := hS (p ++ z1) (a :: A2) (b :: B2) q (by simp) (by simp) sA2 sB2 (fun z hz => by rcases List.mem_append.1 hz with h | h; exact D2 z h; exact D4 z h) (by simp at hl ⊢; omega) hL2
        refine ⟨z, q1, q2, ?_⟩
        have e : ((decide (((p.length + A1.length + B1.length : Nat) : Int) < ((p.length + A1.length + (a :: A2).length + B1.length : Nat) : Int))) && (decide (((p.length + A1.length + (a :: A2).length + B1.length : Nat) : Int) < ((p.length + A1.length + (a :: A2).length + B1.length + (b :: B2).length : Nat) : Int)))) = true := by simp; omega
        rw [e, cond_true]
        have e1 : (p ++ z1).length = p.length + A1.length + B1.length := by simp; omega
        have e2 : p.length + A1.length + B1.length + (a :: A2).length = p.length + A1.length + (a :: A2).length + B1.length := by omega
        have e3 : p.length + A1.length + B1.length + (a :: A2).length + (b :: B2).length = p.length + A1.length + (a :: A2).length + B1.length + (b :: B2).length := by omega
        rw [e1, e3, e2] at q3
        have e4 : p ++ z1 ++ a :: A2 ++ b :: B2 ++ q = p ++ z1 ++ a :: A2 ++ b :: B2 ++ q := rfl
        rw [q3]
        rfl
  rw [k3]
  refine ⟨z1 ++ z2, ?_, ?_, by simp⟩
  · refine (p1.append p2).trans ?_
    rw [List.append_assoc, List.append_assoc]
    refine List.Perm.append_left A1 ?_
    rw [← List.append_assoc, ← List.append_assoc]
    exact (List.perm_append_comm (l₁ := B1) (l₂ := A2)).append_right B2
  · refine sorted_append s1 s2 fun a ha b hb => ?_
    rcases List.mem_append.1 (p1.mem_iff.1 ha) with h | h <;> rcases List.mem_append.1 (p2.mem_iff.1 hb) with h' | h'
    · exact sA a h b h'
    · exact hab a h b h'
    · exact hba a h b h'
    · exact sB a h b h'

theorem sorted_le (H : Cmp cmp c D K) {l : List α} (hs : Sorted c l) (hD : ∀ z ∈ l, D z) {i j : Nat} {u v : α} (hi : l[i]? = some u) (hj : l[j]? = some v) (h : i ≤ j) : ¬ c v u < 0 := by
  rcases Nat.lt_or_ge i j with hlt | hge
  · obtain ⟨k1, e1⟩ := List.getElem?_eq_some_iff.1 hi
    obtain ⟨k2, e2⟩ := List.getElem?_eq_some_iff.1 hj
    have := List.pairwise_iff_getElem.1 hs _ _ k1 k2 hlt
    rw [e1, e2] at this
    exact this
  · have : i = j := by omega
    subst this
    rw [hi] at hj
    cases hj
    exact H.refl (hD _ (List.mem_of_getElem? hi))
theorem search_ok (H : Cmp cmp c D K) {self} {L : Nat} (hS : Merges c D self L) (n : Nat) (hn : K ≤ n) (p x y q : List α) (sx : Sorted c x) (sy : Sorted c y) (hD : ∀ z ∈ x ++ y, D z) (hl : p.length + x.length + y.length + q.length ≤ 1000000000)
    (hf : x.length + y.length + 2 < n) (mid st r : Nat) (h1 : p.length ≤ st) (h2 : st ≤ r) (h3 : r ≤ p.length + x.length) (hr : p.length + x.length + r ≤ mid + (p.length + x.length)) (hst : mid + (p.length + x.length) ≤ p.length + x.length + y.length + st)
    (hsA : st = p.length ∨ mid + (p.length + x.length) = p.length + x.length + y.length + st) (hrA : r = p.length + x.length ∨ mid + (p.length + x.length) = p.length + x.length + r) (hm0 : p.length ≤ mid)
    (hL1 : mid - p.length ≤ L) (hL2 : p.length + x.length + y.length - mid ≤ L) (hm1 : mid ≤ p.length + x.length + y.length) (hP : 1 ≤ mid + (p.length + x.length)) :
    ∃ z, z.Perm (x ++ y) ∧ Sorted c z ∧ iterN (fun rc85 => G_sM_s8 cmp self n rc85 (G_tail0 self n) (fun (_) => none)) n
      ((p.length : Int), ((p.length + x.length : Nat) : Int), ((p.length + x.length + y.length : Nat) : Int), (mid : Int), ((mid + (p.length + x.length) : Nat) : Int), (st : Int), (r : Int), ((mid + (p.length + x.length) - 1 : Nat) : Int), p ++ x ++ y ++ q, ()) = some (p ++ z ++ q, ()) := by
  have Dx : ∀ z ∈ x, D z := fun z hz => hD z (by simp [hz])
  have Dy : ∀ z ∈ y, D z := fun z hz => hD z (by simp [hz])
  have dx : p ++ x ++ y ++ q = p ++ x ++ (y ++ q) := by simp
  have dy : p ++ x ++ y ++ q = (p ++ x) ++ y ++ q := rfl
  have gx : ∀ h, st ≤ h → h < r → ∃ u, x[h - p.length]? = some u := fun h b1 b2 => ⟨x[h - p.length]'(by omega), by simp⟩
  have gy : ∀ h, st ≤ h → h < r → ∃ v, y[mid + (p.length + x.length) - 1 - h - (p.length + x.length)]? = some v := fun h b1 b2 => ⟨y[mid + (p.length + x.length) - 1 - h - (p.length + x.length)]'(by omega), by simp⟩
  obtain ⟨s, a1, a2, a3, a4, a5⟩ := bs_gen (fun fuel i j => iterN (fun rc85 => G_sM_s8 cmp self n rc85 (G_tail0 self n) (fun (_) => none)) fuel
      ((p.length : Int), ((p.length + x.length : Nat) : Int), ((p.length + x.length + y.length : Nat) : Int), (mid : Int), ((mid + (p.length + x.length) : Nat) : Int), (i : Int), (j : Int), ((mid + (p.length + x.length) - 1 : Nat) : Int), p ++ x ++ y ++ q, ()))
    (fun i => G_tail0 self n ((p.length : Int), ((p.length + x.length : Nat) : Int), ((p.length + x.length + y.length : Nat) : Int), (mid : Int), ((mid + (p.length + x.length) : Nat) : Int), (i : Int), p ++ x ++ y ++ q, ()))
    (fun h => match x[h - p.length]?, y[mid + (p.length + x.length) - 1 - h - (p.length + x.length)]? with | some u, some v => !(decide (c v u < 0)) | _, _ => false) st r
    (fun fuel i j b1 b2 b3 => by
      obtain ⟨u, hu⟩ := gx ((i + j) / 2) (by omega) (by omega)
      obtain ⟨v, hv⟩ := gy ((i + j) / 2) (by omega) (by omega)
      have e : decide ((i : Int) < (j : Int)) = true := by simp; omega
      have hh := halfN (i := i) (j := j) (by omega)
      have ww : IntKind.wrap .i64 (((mid + (p.length + x.length) - 1 : Nat) : Int) - (((i + j) / 2 : Nat) : Int)) = ((mid + (p.length + x.length) - 1 - (i + j) / 2 : Nat) : Int) := wsub (by omega) (by omega)
      have g1 := at_in dx hu (i := (i + j) / 2) (by omega)
      have g2 := at_in dy hv (i := mid + (p.length + x.length) - 1 - (i + j) / 2) (by simp; omega)
      have Du := Dx u (List.mem_of_getElem? hu)
      have Dv := Dy v (List.mem_of_getElem? hv)
      simp only [iterN, G_sM_s8, e, cond_true, hh, ww, tnat, ix_ok g1, g1, ix_ok g2, g2, Option.bind_some, H.ok n hn v u Dv Du, hu, hv, wadd1 (show (i + j) / 2 ≤ 4000000000 by omega)])
    (fun fuel i b1 b2 => by
      have e : decide ((i : Int) < (i : Int)) = false := by simp
      simp only [iterN, G_sM_s8, e, cond_false])
    (fun h h' b1 b2 b3 hF => by
      obtain ⟨u, hu⟩ := gx h b1 (by omega)
      obtain ⟨v, hv⟩ := gy h b1 (by omega)
      obtain ⟨u', hu'⟩ := gx h' (by omega) b3
      obtain ⟨v', hv'⟩ := gy h' (by omega) b3
      rw [hu', hv'] at hF
      rw [hu, hv]
      dsimp only at hF ⊢
      simp only [Bool.not_eq_true', decide_eq_false_iff_not] at hF ⊢
      have k1 := sorted_le H sx Dx hu hu' (by omega)
      have k2 := sorted_le H sy Dy hv' hv (by omega)
      have Du := Dx u (List.mem_of_getElem? hu)
      have Dv := Dy v (List.mem_of_getElem? hv)
      have Du' := Dx u' (List.mem_of_getElem? hu')
      have Dv' := Dy v' (List.mem_of_getElem? hv')
      exact H.tr u u' v Du Du' Dv k1 (H.tr u' v' v Du' Dv' Dv hF k2))
    n st r (Nat.le_refl _) h2 (Nat.le_refl _) (by omega) (fun h b1 b2 => by omega) (fun h b1 b2 => by omega)
  rw [a5, tail_eq]
  obtain ⟨A1, A2, hx, hA⟩ : ∃ A1 A2, x = A1 ++ A2 ∧ A1.length = s - p.length := ⟨x.take (s - p.length), x.drop (s - p.length), by simp, by simp; omega⟩
  obtain ⟨B1, B2, hy, hB⟩ : ∃ B1 B2, y = B1 ++ B2 ∧ B1.length = mid - s := ⟨y.take (mid - s), y.drop (mid - s), by simp, by simp; omega⟩
  have lx : x.length = A1.length + A2.length := by rw [hx]; simp
  have ly : y.length = B1.length + B2.length := by rw [hy]; simp
  have hab : ∀ a ∈ A1, ∀ b ∈ B2, ¬ c b a < 0 := by
    intro a ha b hb
    obtain ⟨i, hi, e1⟩ := List.mem_iff_getElem.1 ha
    obtain ⟨j, hj, e2⟩ := List.mem_iff_getElem.1 hb
    have ga : x[i]? = some a := by rw [hx, List.getElem?_append_left hi, ← e1]; simp
    have gb : y[B1.length + j]? = some b := by rw [hy, List.getElem?_append_right (by omega), show B1.length + j - B1.length = j by omega, ← e2]; simp
    have hs : st < s := by omega
    have hF := a3 (s - 1) (by omega) (by omega)
    obtain ⟨u, hu⟩ := gx (s - 1) (by omega) (by omega)
    obtain ⟨v, hv⟩ := gy (s - 1) (by omega) (by omega)
    rw [hu, hv] at hF
    simp only [Bool.not_eq_true', decide_eq_false_iff_not] at hF
    have k1 := sorted_le H sx Dx ga hu (by omega)
    have k2 := sorted_le H sy Dy hv gb (by omega)
    exact H.tr a u b (Dx a (List.mem_of_getElem? ga)) (Dx u (List.mem_of_getElem? hu)) (Dy b (List.mem_of_getElem? gb)) k1 (H.tr u v b (Dx u (List.mem_of_getElem? hu)) (Dy v (List.mem_of_getElem? hv)) (Dy b (List.mem_of_getElem? gb)) hF k2)
  have hba : ∀ b ∈ B1, ∀ a ∈ A2, ¬ c a b < 0 := by
    intro b hb a ha
    obtain ⟨i, hi, e1⟩ := List.mem_iff_getElem.1 ha
    obtain ⟨j, hj, e2⟩ := List.mem_iff_getElem.1 hb
    have ga : x[A1.length + i]? = some a := by rw [hx, List.getElem?_append_right (by omega), show A1.length + i - A1.length = i by omega, ← e1]; simp
    have gb : y[j]? = some b := by rw [hy, List.getElem?_append_left hj, ← e2]; simp
    have hs : s < r := by omega
    have hF := a4 s (Nat.le_refl _) hs
    obtain ⟨u, hu⟩ := gx s (by omega) (by omega)
    obtain ⟨v, hv⟩ := gy s (by omega) (by omega)
    rw [hu, hv] at hF
    simp only [Bool.not_eq_false', decide_eq_true_iff] at hF
    have k1 := sorted_le H sx Dx hu ga (by omega)
    have k2 := sorted_le H sy Dy gb hv (by omega)
    exact H.tr b v a (Dy b (List.mem_of_getElem? gb)) (Dy v (List.mem_of_getElem? hv)) (Dx a (List.mem_of_getElem? ga)) k2 (H.tr v u a (Dy v (List.mem_of_getElem? hv)) (Dx u (List.mem_of_getElem? hu)) (Dx a (List.mem_of_getElem? ga)) (H.asy v u (Dy v (List.mem_of_getElem? hv)) (Dx u (List.mem_of_getElem? hu)) hF) k1)
  subst hx hy
  obtain ⟨z, z1, z2, z3⟩ := tail_ok H hS n p A1 A2 B1 B2 q sx sy hD hab hba (by omega) (by omega) (by omega) (by omega) mid (by omega)
  refine ⟨z, z1, z2, ?_⟩
  have e1 : p.length + (A1 ++ A2).length = p.length + A1.length + A2.length := by omega
  have e2 : p.length + A1.length + A2.length + (B1 ++ B2).length = p.length + A1.length + A2.length + B1.length + B2.length := by omega
  have e3 : s = p.length + A1.length := by omega
  rw [e1, e2, e3]
  exact z3
theorem smb_ok (H : Cmp cmp c D K) {self} {L : Nat} (hS : Merges c D self L) (n : Nat) (hn : K ≤ n) (hf : L + 4 < n) : Merges c D (G_sM_b cmp self n) (L + 1) := by
  intro p x y q hx hy sx sy hD hl hL
  have lx : 0 < x.length := List.length_pos_iff.2 hx
  have ly : 0 < y.length := List.length_pos_iff.2 hy
  unfold G_sM_b
  dsimp only
  rw [wsub (a := p.length + x.length) (b := p.length) (c := x.length) (by omega) (by omega), wsub (a := p.length + x.length + y.length) (b := p.length + x.length) (c := y.length) (by omega) (by omega)]
  cases c1 : ((x.length : Int) == 1) with
  | true =>
    have h1 : x.length = 1 := by have := eq_of_beq c1; omega
    obtain ⟨x0, rfl⟩ := List.length_eq_one_iff.1 h1
    rw [cond_true]
    obtain ⟨z, z1, z2, z3⟩ := merge_one H self n hn p y q x0 sy (by simpa using hD) (by simpa using hl) (by simp at hL; omega)
    refine ⟨z, z1, z2, ?_⟩
    have e : p ++ [x0] ++ y ++ q = p ++ x0 :: (y ++ q) := by simp
    rw [e]
    exact z3
  | false =>
  rw [cond_false]
  cases c2 : ((y.length : Int) == 1) with
  | true =>
    have h1 : y.length = 1 := by have := eq_of_beq c2; omega
    obtain ⟨y0, rfl⟩ := List.length_eq_one_iff.1 h1
    rw [cond_true]
    obtain ⟨z, z1, z2, z3⟩ := merge_last H self n hn p x q y0 sx hD (by simp at hl; omega) (by simp at hL; omega)
    refine ⟨z, z1, z2, ?_⟩
    have e : p ++ x ++ [y0] ++ q = p ++ x ++ y0 :: q := by simp
    rw [e]
    exact z3
  | false =>
  rw [cond_false]
  have hx2 : 2 ≤ x.length := by have : (x.length : Int) ≠ 1 := by simpa using c1
                                omega
  have hy2 : 2 ≤ y.length := by have : (y.length : Int) ≠ 1 := by simpa using c2
                                omega
  rw [halfN (i := p.length) (j := p.length + x.length + y.length) (by omega)]
  generalize hmid : (p.length + (p.length + x.length + y.length)) / 2 = mid
  rw [wadd (a := mid) (b := p.length + x.length) (by omega), wsub1 (a := mid + (p.length + x.length)) (c := mid + (p.length + x.length) - 1) (by omega) (by omega)]
  cases c3 : decide (((p.length + x.length : Nat) : Int) > (mid : Int)) with
  | true =>
    have h3 : mid < p.length + x.length := by have := of_decide_eq_true c3; omega
    rw [cond_true, wsub (a := mid + (p.length + x.length)) (b := p.length + x.length + y.length) (c := mid + (p.length + x.length) - (p.length + x.length + y.length)) (by omega) (by omega)]
    exact search_ok H hS n hn p x y q sx sy hD hl (by omega) mid (mid + (p.length + x.length) - (p.length + x.length + y.length)) mid (by omega) (by omega) (by omega) (by omega) (by omega) (.inr (by omega)) (.inr (by omega)) (by omega) (by omega) (by omega) (by omega) (by omega)
  | false =>
    have h3 : p.length + x.length ≤ mid := by have := of_decide_eq_false c3; omega
    rw [cond_false]
    exact search_ok H hS n hn p x y q sx sy hD hl (by omega) mid p.length (p.length + x.length) (by omega) (by omega) (by omega) (by omega) (by omega) (.inl rfl) (.inl rfl) (by omega) (by omega) (by omega) (by omega) (by omega)
theorem sm_ok (H : Cmp cmp c D K) : ∀ (n L : Nat), L + K + 6 ≤ n → Merges c D (G_sM cmp n) L
  | 0, L, h => by omega
  | n + 1, 0, h => fun p x y q hx _ _ _ _ _ hL => absurd (List.length_eq_zero_iff.1 (by omega)) hx
  | n + 1, L + 1, h => smb_ok H (sm_ok H n L (by omega)) n (by omega) (by omega)

/-! ## blocks -/
def BL (c : α → α → Int) (s : Nat) (B : List (List α)) : Prop := ∀ b ∈ B, b.length = s ∧ Sorted c b
theorem BL.add {s : Nat} {B : List (List α)} {z : List α} (h : BL c s B) (h1 : z.length = s) (h2 : Sorted c z) : BL c s (B ++ [z]) := by
  intro b hb
  rcases List.mem_append.1 hb with h' | h'
  · exact h b h'
  · rw [List.mem_singleton.1 h']; exact ⟨h1, h2⟩
theorem st0_loop (H : Cmp cmp c D K) (n len : Nat) (hn : K + 40 ≤ n) {ρ : Type} (kx : Int × Int × Int × (List α) × Unit → Option ρ) (kr : Unit → Option ρ) : ∀ (k : Nat) (t : List α) (B : List (List α)) (fuel : Nat), t.length ≤ k → BL c 20 B → (∀ z ∈ t, D z) →
    len = B.flatten.length + t.length → len ≤ 100000000 → t.length < fuel →
    ∃ B' t', BL c 20 B' ∧ t'.length < 20 ∧ (B'.flatten ++ t').Perm (B.flatten ++ t) ∧ (∀ z ∈ t', D z) ∧
      iterN (fun rc => G_stable_s0 cmp n rc kx kr) fuel ((len : Int), 20, (B.flatten.length : Int), ((B.flatten.length + 20 : Nat) : Int), B.flatten ++ t, ()) = kx ((len : Int), 20, (B'.flatten.length : Int), B'.flatten ++ t', ()) := by
  intro k
  induction k with
  | zero =>
    intro t B fuel hk hB hD hlen hl hf
    obtain ⟨m, rfl⟩ : ∃ m, fuel = m + 1 := ⟨fuel - 1, by omega⟩
    refine ⟨B, t, hB, by omega, List.Perm.refl _, hD, ?_⟩
    have e : decide (((B.flatten.length + 20 : Nat) : Int) ≤ (len : Int)) = false := by rw [decide_eq_false_iff_not]; omega
    simp only [iterN, G_stable_s0, e, cond_false]
  | succ k ih =>
    intro t B fuel hk hB hD hlen hl hf
    obtain ⟨m, rfl⟩ : ∃ m, fuel = m + 1 := ⟨fuel - 1, by omega⟩
    rcases Nat.lt_or_ge t.length 20 with h20 | h20
    · refine ⟨B, t, hB, h20, List.Perm.refl _, hD, ?_⟩
      have e : decide (((B.flatten.length + 20 : Nat) : Int) ≤ (len : Int)) = false := by rw [decide_eq_false_iff_not]; omega
      simp only [iterN, G_stable_s0, e, cond_false]
    · have e : decide (((B.flatten.length + 20 : Nat) : Int) ≤ (len : Int)) = true := by rw [decide_eq_true_iff]; omega
      obtain ⟨t1, t2, ht, ht1⟩ : ∃ t1 t2, t = t1 ++ t2 ∧ t1.length = 20 := ⟨t.take 20, t.drop 20, by simp, by simp [-List.length_flatten]; omega⟩
      subst ht
      have hlt : (t1 ++ t2).length = t1.length + t2.length := by simp [-List.length_flatten]
      obtain ⟨s, s1, s2, s3⟩ := insertion_ok H n (by omega) B.flatten t1 t2 (fun z hz => hD z (by simp [-List.length_flatten, hz])) (by omega) (by omega)
      have ls : s.length = 20 := by rw [s1.length_eq]; exact ht1
      rw [ht1] at s3
      have hd : B.flatten ++ (t1 ++ t2) = B.flatten ++ t1 ++ t2 := by simp [-List.length_flatten]
      have ww : IntKind.wrap .i64 (((B.flatten.length + 20 : Nat) : Int) + 20) = ((B.flatten.length + 20 + 20 : Nat) : Int) := wadd (b := 20) (by omega)
      rw [hd]
      simp only [iterN, G_stable_s0, e, cond_true, s3, Option.bind_some, ww]
      have hfl : (B ++ [s]).flatten = B.flatten ++ s := by simp [-List.length_flatten]
      obtain ⟨B', t', b1, b2, b3, b4, b5⟩ := ih t2 (B ++ [s]) m (by omega) (hB.add ls s2) (fun z hz => hD z (by simp [-List.length_flatten, hz])) (by rw [hfl]; simp [-List.length_flatten]; omega) hl (by omega)
      refine ⟨B', t', b1, b2, b3.trans ?_, b4, ?_⟩
      · rw [hfl]
        exact ((s1.append_left _).append_right _)
      · have e1 : B.flatten.length + 20 = (B ++ [s]).flatten.length := by rw [hfl]; simp [-List.length_flatten]; omega
        have e2 : B.flatten ++ s ++ t2 = (B ++ [s]).flatten ++ t2 := by rw [hfl]
        rw [e1, e2]
        exact b5
theorem st4_loop (H : Cmp cmp c D K) (n len s : Nat) (hn : len + K + 6 ≤ n) (last : List α) (hs0 : 0 < s) (hlast : last.length < s) {ρ : Type} (kx : Int × Int × Int × (List α) × Unit → Option ρ) (kr : Unit → Option ρ) : ∀ (k : Nat) (B C : List (List α)) (fuel : Nat), B.length ≤ k → BL c s B → BL c (2 * s) C →
    (∀ z ∈ B.flatten, D z) → len = C.flatten.length + B.flatten.length + last.length → len ≤ 100000000 → s ≤ len → B.length < fuel →
    ∃ C' B', B'.length ≤ 1 ∧ BL c s B' ∧ BL c (2 * s) C' ∧ (C'.flatten ++ B'.flatten).Perm (C.flatten ++ B.flatten) ∧ (∀ z ∈ B'.flatten, D z) ∧
      iterN (fun rc => G_stable_s4 cmp n rc kx kr) fuel ((len : Int), (s : Int), (C.flatten.length : Int), ((C.flatten.length + 2 * s : Nat) : Int), C.flatten ++ B.flatten ++ last, ()) = kx ((len : Int), (s : Int), (C'.flatten.length : Int), C'.flatten ++ B'.flatten ++ last, ()) := by
  intro k
  induction k using Nat.strongRecOn with
  | ind k ih =>
  intro B C fuel hk hB hC hD hlen hl hsl hf
  obtain ⟨m, rfl⟩ : ∃ m, fuel = m + 1 := ⟨fuel - 1, by omega⟩
  match B, hk, hB, hD, hlen, hf with
  | [], hk, hB, hD, hlen, hf =>
    refine ⟨C, [], by simp, hB, hC, List.Perm.refl _, hD, ?_⟩
    have e : decide (((C.flatten.length + 2 * s : Nat) : Int) ≤ (len : Int)) = false := by rw [decide_eq_false_iff_not]; simp [-List.length_flatten] at hlen; omega
    simp only [iterN, G_stable_s4, e, cond_false]
  | [b], hk, hB, hD, hlen, hf =>
    refine ⟨C, [b], by simp, hB, hC, List.Perm.refl _, hD, ?_⟩
    have lb := (hB b (by simp [-List.length_flatten])).1
    have e : decide (((C.flatten.length + 2 * s : Nat) : Int) ≤ (len : Int)) = false := by rw [decide_eq_false_iff_not]; simp [-List.length_flatten] at hlen; omega
    simp only [iterN, G_stable_s4, e, cond_false]
  | b1 :: b2 :: B, hk, hB, hD, hlen, hf =>
    obtain ⟨l1, o1⟩ := hB b1 (by simp [-List.length_flatten])
    obtain ⟨l2, o2⟩ := hB b2 (by simp [-List.length_flatten])
    have hfl0 : (b1 :: b2 :: B).flatten = b1 ++ b2 ++ B.flatten := by simp [-List.length_flatten]
    rw [hfl0] at hD hlen
    have hlen' : len = C.flatten.length + (b1.length + b2.length + B.flatten.length) + last.length := by simpa [Nat.add_assoc, -List.length_flatten] using hlen
    have e : decide (((C.flatten.length + 2 * s : Nat) : Int) ≤ (len : Int)) = true := by rw [decide_eq_true_iff]; omega
    obtain ⟨z, z1, z2, z3⟩ := sm_ok H n len hn C.flatten b1 b2 (B.flatten ++ last) (by intro h0; subst h0; simp [-List.length_flatten] at l1; omega) (by intro h0; subst h0; simp [-List.length_flatten] at l2; omega) o1 o2 (fun z hz => hD z (by simp [-List.length_flatten] at hz ⊢; rcases hz with h | h <;> simp [h])) (by simp [-List.length_flatten]; omega) (by omega)
    have lz : z.length = 2 * s := by rw [z1.length_eq]; simp [-List.length_flatten]; omega
    have w1 : IntKind.wrap .i64 ((C.flatten.length : Int) + (s : Int)) = ((C.flatten.length + b1.length : Nat) : Int) := by rw [l1]; exact wadd (by omega)
    have w2 : IntKind.wrap .i64 (2 * (s : Int)) = ((2 * s : Nat) : Int) := by rw [wrap64 (by omega) (by omega)]; omega
    have w3 : IntKind.wrap .i64 (((C.flatten.length + 2 * s : Nat) : Int) + ((2 * s : Nat) : Int)) = ((C.flatten.length + 2 * s + 2 * s : Nat) : Int) := wadd (by omega)
    have e2 : C.flatten.length + 2 * s = C.flatten.length + b1.length + b2.length := by omega
    have hd : C.flatten ++ (b1 :: b2 :: B).flatten ++ last = C.flatten ++ b1 ++ b2 ++ (B.flatten ++ last) := by simp [-List.length_flatten]
    rw [hd]
    simp only [iterN, G_stable_s4, e, cond_true, w1, w2, w3]
    rw [show ((C.flatten.length + 2 * s : Nat) : Int) = ((C.flatten.length + b1.length + b2.length : Nat) : Int) by rw [e2], z3]
    simp only [Option.bind_some]
    have hfl : (C ++ [z]).flatten = C.flatten ++ z := by simp [-List.length_flatten]
    obtain ⟨C', B', c1, c2, c3, c4, c5, c6⟩ := ih (k - 2) (by simp [-List.length_flatten] at hk; omega) B (C ++ [z]) m (by simp [-List.length_flatten] at hk; omega) (fun b hb => hB b (by simp [hb])) (hC.add lz z2) (fun z hz => hD z (by simp [-List.length_flatten] at hz ⊢; simp [hz])) (by rw [hfl]; simp [-List.length_flatten]; omega) hl hsl (by simp [-List.length_flatten] at hf; omega)
    refine ⟨C', B', c1, c2, c3, c4.trans ?_, c5, ?_⟩
    · rw [hfl, hfl0, List.append_assoc]
      exact List.Perm.append_left _ (z1.append_right _)
    · have q1 : C.flatten.length + b1.length + b2.length = (C ++ [z]).flatten.length := by rw [hfl]; simp [-List.length_flatten]; omega
      have q2 : C.flatten.length + 2 * s + 2 * s = (C ++ [z]).flatten.length + 2 * s := by rw [hfl]; simp [-List.length_flatten]; omega
      have q3 : C.flatten ++ z ++ (B.flatten ++ last) = (C ++ [z]).flatten ++ B.flatten ++ last := by rw [hfl]; simp [-List.length_flatten]
      rw [q1, q2, q3]
      exact c6
/-- what is done behind the merging of pairs -/
noncomputable def G_fin (cmp : Nat → α × α × Unit → Option (Int × Unit)) (n : Nat) {ρ : Type} (kx : (List α) × Unit → Option ρ) (kr : Unit → Option ρ) (m : Nat) : Int × Int × Int × (List α) × Unit → Option ρ :=
  fun (v23, v24, v25, o26, _) =>
      (bif decide ((IntKind.wrap .i64 (v25 + v24) : Int) < v23) then
      (G_sM cmp n (v25, IntKind.wrap .i64 (v25 + v24), v23, o26, ())).bind fun (o27, _) => iterN (fun rc => G_stable_s2 cmp n rc kx kr) m (v23, IntKind.wrap .i64 (v24 * 2), o27, ())
      else iterN (fun rc => G_stable_s2 cmp n rc kx kr) m (v23, IntKind.wrap .i64 (v24 * 2), o26, ()))
theorem st2_loop (H : Cmp cmp c D K) (n len : Nat) (hn : len + K + 6 ≤ n) {ρ : Type} (kx : (List α) × Unit → Option ρ) (kr : Unit → Option ρ) : ∀ (k s : Nat) (B : List (List α)) (last : List α) (fuel : Nat), len - s ≤ k → 0 < s → s ≤ 4 * len + 20 → BL c s B → last.length < s → Sorted c last →
    (∀ z ∈ B.flatten ++ last, D z) → len = B.flatten.length + last.length → len ≤ 100000000 → k < fuel →
    ∃ d, d.Perm (B.flatten ++ last) ∧ Sorted c d ∧ iterN (fun rc => G_stable_s2 cmp n rc kx kr) fuel ((len : Int), (s : Int), B.flatten ++ last, ()) = kx (d, ()) := by
  intro k
  induction k using Nat.strongRecOn with
  | ind k ih =>
  intro s B last fuel hk hs0 hs4 hB hlast slast hD hlen hl hf
  obtain ⟨m, rfl⟩ : ∃ m, fuel = m + 1 := ⟨fuel - 1, by omega⟩
  rcases Nat.lt_or_ge s len with hsl | hsl
  · have e : decide ((s : Int) < (len : Int)) = true := by rw [decide_eq_true_iff]; omega
    have w0 : IntKind.wrap .i64 (2 * (s : Int)) = ((([] : List (List α)).flatten.length + 2 * s : Nat) : Int) := by rw [wrap64 (by omega) (by omega)]; simp [-List.length_flatten]
    have w1 : IntKind.wrap .i64 ((s : Int) * 2) = ((2 * s : Nat) : Int) := by rw [wrap64 (by omega) (by omega)]; omega
    have hBl : B.length ≤ B.flatten.length := by
      clear ih hf hk hD hlen
      induction B with
      | nil => simp [-List.length_flatten]
      | cons b B ihB =>
        have := (hB b (by simp [-List.length_flatten])).1
        have := ihB (fun b hb => hB b (by simp [hb]))
        simp [-List.length_flatten]; omega
    obtain ⟨C, B', c1, c2, c3, c4, c5, c6⟩ := st4_loop H n len s hn last hs0 hlast (G_fin cmp n kx kr m) (fun (_) => none) B.length B [] n (Nat.le_refl _) hB (by intro b hb; cases hb) (fun z hz => hD z (by simp [-List.length_flatten] at hz ⊢; simp [hz])) (by simpa [-List.length_flatten] using hlen) hl (by omega) (by omega)
    simp only [List.flatten_nil, List.length_nil, List.nil_append] at c4 c6
    have DC : ∀ z ∈ C.flatten ++ B'.flatten, D z := fun z hz => hD z (by have := c4.mem_iff.1 hz; simp [-List.length_flatten] at this ⊢; simp [this])
    have lC : C.flatten.length + B'.flatten.length = B.flatten.length := by have := c4.length_eq; simpa [-List.length_flatten] using this
    simp only [iterN, G_stable_s2, e, cond_true]
    rw [show IntKind.wrap .i64 (2 * (s : Int)) = ((0 + 2 * s : Nat) : Int) from w0]
    suffices key : ∃ d : List α, d.Perm (B.flatten ++ last) ∧ Sorted c d ∧ G_fin cmp n kx kr m ((len : Int), (s : Int), (C.flatten.length : Int), C.flatten ++ B'.flatten ++ last, ()) = kx (d, ()) by
      obtain ⟨d, d1, d2, d3⟩ := key
      exact ⟨d, d1, d2, c6.trans d3⟩
    unfold G_fin
    dsimp only
    match B', c1, c2, c4, c5, lC, DC with
    | [], _, _, c4, c5, lC, DC =>
      simp only [List.flatten_nil, List.append_nil, List.length_nil, Nat.add_zero] at c4 lC DC ⊢
      have ww : IntKind.wrap .i64 ((C.flatten.length : Int) + (s : Int)) = ((C.flatten.length + s : Nat) : Int) := wadd (by omega)
      have e2 : decide (((C.flatten.length + s : Nat) : Int) < (len : Int)) = false := by rw [decide_eq_false_iff_not]; omega
      rw [ww, e2, cond_false, w1]
      obtain ⟨d, d1, d2, d3⟩ := ih (len - 2 * s) (by omega) (2 * s) C last m (Nat.le_refl _) (by omega) (by omega) c3 (by omega) slast (fun z hz => by
        rcases List.mem_append.1 hz with h | h
        · exact DC z h
        · exact hD z (by simp [h])) (by omega) hl (by omega)
      exact ⟨d, d1.trans (c4.append_right _), d2, d3⟩
    | [b], _, c2, c4, c5, lC, DC =>
      obtain ⟨lb, ob⟩ := c2 b (by simp [-List.length_flatten])
      simp only [List.flatten_cons, List.flatten_nil, List.append_nil] at c4 lC DC ⊢
      have ww : IntKind.wrap .i64 ((C.flatten.length : Int) + (s : Int)) = ((C.flatten.length + b.length : Nat) : Int) := by rw [lb]; exact wadd (by omega)
      cases last with
      | nil =>
        have e2 : decide (((C.flatten.length + b.length : Nat) : Int) < (len : Int)) = false := by rw [decide_eq_false_iff_not]; simp [-List.length_flatten] at hlen; omega
        rw [ww, e2, cond_false, w1]
        obtain ⟨d, d1, d2, d3⟩ := ih (len - 2 * s) (by omega) (2 * s) C b m (Nat.le_refl _) (by omega) (by omega) c3 (by omega) ob DC (by simp [-List.length_flatten] at hlen; omega) hl (by omega)
        refine ⟨d, by simpa [-List.length_flatten] using d1.trans c4, d2, ?_⟩
        rw [List.append_nil]
        exact d3
      | cons y last =>
        have e2 : decide (((C.flatten.length + b.length : Nat) : Int) < (len : Int)) = true := by rw [decide_eq_true_iff]; simp [-List.length_flatten] at hlen; omega
        rw [ww, e2, cond_true, w1]
        obtain ⟨z, z1, z2, z3⟩ := sm_ok H n len hn C.flatten b (y :: last) [] (by intro h0; subst h0; simp [-List.length_flatten] at lb; omega) (by simp [-List.length_flatten]) ob slast (fun z hz => by
          rcases List.mem_append.1 hz with h | h
          · exact DC z (by simp [h])
          · exact hD z (List.mem_append_right _ h)) (by simp [-List.length_flatten] at hlen ⊢; omega) (by simp [-List.length_flatten] at hlen ⊢; omega)
        have lz : z.length = b.length + (y :: last).length := by rw [z1.length_eq]; simp [-List.length_flatten]
        have e3 : C.flatten.length + b.length + (y :: last).length = len := by simp [-List.length_flatten] at hlen ⊢; omega
        rw [e3] at z3
        simp only [List.append_nil] at z3
        rw [z3]
        simp only [Option.bind_some]
        obtain ⟨d, d1, d2, d3⟩ := ih (len - 2 * s) (by omega) (2 * s) C z m (Nat.le_refl _) (by omega) (by omega) c3 (by simp [-List.length_flatten] at lz hlast; omega) z2 (fun w hw => by
          rcases List.mem_append.1 hw with h | h
          · exact DC w (by simp [h])
          · rcases List.mem_append.1 (z1.mem_iff.1 h) with h | h
            · exact DC w (by simp [h])
            · exact hD w (List.mem_append_right _ h)) (by omega) hl (by omega)
        refine ⟨d, d1.trans ?_, d2, d3⟩
        refine (z1.append_left _).trans ?_
        rw [← List.append_assoc]
        exact c4.append_right _
    | _ :: _ :: _, c1, _, _, _, _, _ => simp [-List.length_flatten] at c1
  · have e : decide ((s : Int) < (len : Int)) = false := by rw [decide_eq_false_iff_not]; omega
    refine ⟨B.flatten ++ last, List.Perm.refl _, ?_, by simp only [iterN, G_stable_s2, e, cond_false]⟩
    match B, hB, hlen with
    | [], _, _ => simpa [-List.length_flatten] using slast
    | [b], hB, hlen =>
      obtain ⟨lb, ob⟩ := hB b (by simp [-List.length_flatten])
      have : last = [] := List.length_eq_zero_iff.1 (by simp [-List.length_flatten] at hlen; omega)
      subst this
      simpa [-List.length_flatten] using ob
    | b1 :: b2 :: B, hB, hlen =>
      have l1 := (hB b1 (by simp [-List.length_flatten])).1
      have l2 := (hB b2 (by simp [-List.length_flatten])).1
      simp [-List.length_flatten] at hlen
      omega
/-- SortStableFunc: what is there, in order -/
theorem sort_ok (H : Cmp cmp c D K) (n : Nat) (d : List α) (hD : ∀ z ∈ d, D z) (hl : d.length ≤ 100000000) (hn : d.length + K + 60 ≤ n) :
    ∃ s, s.Perm d ∧ Sorted c s ∧ G_SortStableFunc cmp n (d, ()) = some (s, ()) := by
  unfold G_SortStableFunc G_stable
  dsimp only
  obtain ⟨B, t, b1, b2, b3, b4, b5⟩ := st0_loop H n d.length (by omega) (fun (v9, v10, v11, o12, _) =>
    (G_iS cmp n (v11, v9, o12, ())).bind fun (o13, _) =>
    iterN (fun rc30 => G_stable_s2 cmp n rc30 (fun (o29, _) => some (o29, ())) (fun (_) => none)) (n) (v9, v10, o13, ())) (fun (_) => none) d.length d [] n (Nat.le_refl _) (by intro b hb; cases hb) hD (by simp [-List.length_flatten]) hl (by omega)
  simp only [List.flatten_nil, List.length_nil, List.nil_append] at b3 b5
  rw [show (20 : Int) = ((0 + 20 : Nat) : Int) from rfl] at b5 ⊢
  have b5' := b5
  rw [show ((0 : Nat) : Int) = 0 from rfl] at b5'
  rw [b5']
  have hlB : B.flatten.length + t.length = d.length := by have := b3.length_eq; simpa [-List.length_flatten] using this
  obtain ⟨s, s1, s2, s3⟩ := insertion_ok H n (by omega) B.flatten t [] b4 (by simp [-List.length_flatten]; omega) (by omega)
  simp only [List.append_nil] at s3
  rw [hlB] at s3
  rw [s3, Option.bind_some]
  dsimp only
  have ls := s1.length_eq
  obtain ⟨r, r1, r2, r3⟩ := st2_loop H n d.length (by omega) (fun (o29, _) => some (o29, ())) (fun (_) => none) d.length 20 B s n (by omega) (by omega) (by omega) b1 (by omega) s2 (fun z hz => by
    refine hD z (b3.mem_iff.1 ?_)
    rcases List.mem_append.1 hz with h | h
    · simp [h]
    · exact List.mem_append_right _ (s1.mem_iff.1 h)) (by omega) hl (by omega)
  refine ⟨r, r1.trans ((s1.append_left _).trans b3), r2, ?_⟩
  rw [show ((0 + 20 : Nat) : Int) = ((20 : Nat) : Int) from rfl, r3]
  rfl
end
end Pure


/- Bags are checked alike. No program. -/
import Derived.Test.YtnfoajgolcenlaaDoorPBag
namespace Pure
open Esp Ev Go
set_option linter.unusedSimpArgs false
set_option linter.unusedVariables false
set_option linter.unusedSimpArgs false
set_option linter.unusedVariables false

theorem Cnt.eta (c : Cnt) : Cnt.mk c.r c.n = c := rfl
def big (n : Int) : Bool := (decide (n > 1099511627776)) || (decide (n < (-1099511627776)))
/-- the rows do not rise here -/
def falls : Option (List Val) → List Val → Bool
  | none, _ => false
  | some p, x => decide (ordL p x ≥ 0)
def bgF : Option (List Val) → List Cnt → Int
  | _, [] => 0
  | prev, c :: r => bif decide ((c.r.length : Int) > 30) then 2 else bif chks c.r 1 != 0 then chks c.r 1 else bif c.n == 0 then 6 else bif falls prev c.r then 6 else bif big c.n then 9 else bgF (some c.r) r
def bgE (l : List Cnt) : Int := bif decide ((l.length : Int) > 2000) then 2 else bgF none l
/-- how great a bag is -/
def bSz : List Cnt → Nat
  | [] => 0
  | c :: r => lSz c.r + bSz r
theorem bSz_mem : ∀ {l : List Cnt} {c : Cnt}, c ∈ l → lSz c.r ≤ bSz l
  | y :: r, c, h => by
    rw [bSz]
    rcases List.mem_cons.1 h with rfl | h
    · omega
    · have := bSz_mem h; omega
noncomputable def bgB (l : List Cnt) : Int → Cnt → Unit → (Unit → Option (Int × Unit)) → Option (Int × Unit) := fun i c _ rec =>
  bif decide ((c.r.length : Int) > 30) then some (2, ()) else bif chks c.r 1 != 0 then some (chks c.r 1, ()) else bif c.n == 0 then some (6, ()) else
    bif decide (i > 0) then (ix l (IntKind.wrap .i64 (i - 1))).bind fun p => bif decide (ordL p.r c.r ≥ 0) then some (6, ()) else bif big c.n then some (9, ()) else rec () else bif big c.n then some (9, ()) else rec ()
def lastR (p : List Cnt) : Option (List Val) := p.getLast?.map Cnt.r
theorem bg_fold (l : List Cnt) (hl : l.length ≤ 2000) : ∀ (r p : List Cnt), l = p ++ r → foldK (bgB l) (fun _ => some (0, ())) (p.length : Int) r () = some (bgF (lastR p) r, ())
  | [], _, _ => rfl
  | x :: r, p, hp => by
    have e1 : ((p.length : Int) + 1) = ((p ++ [x]).length : Int) := by simp
    have e2 : lastR (p ++ [x]) = some x.r := by unfold lastR; simp
    have hlen : p.length < 2000 := by rw [hp] at hl; simp at hl; omega
    rw [foldK, bgB, e1, bg_fold l hl r (p ++ [x]) (by simp [hp]), e2, bgF]
    cases decide ((x.r.length : Int) > 30)
    · cases chks x.r 1 != 0
      · cases x.n == 0
        · rcases (show p = [] ∨ ∃ q y, p = q ++ [y] by
            rcases List.eq_nil_or_concat p with h | ⟨q, y, h⟩
            · exact .inl h
            · exact .inr ⟨q, y, by rw [h]; simp⟩) with rfl | ⟨q, y, rfl⟩
          · simp only [cond_false]
            rw [show decide ((([] : List Cnt).length : Int) > 0) = false from rfl, cond_false, show falls (lastR []) x.r = false from rfl, cond_false]
            cases big x.n <;> rfl
          · have e3 : lastR (q ++ [y]) = some y.r := by unfold lastR; simp
            have e4 : IntKind.wrap .i64 (((q ++ [y]).length : Int) - 1) = (q.length : Int) := by simp at hlen; rw [List.length_append, List.length_singleton, wrap64 (by omega) (by omega)]; omega
            have e5 : ix l (q.length : Int) = some y := ix_ok (by rw [hp]; simp)
            simp only [cond_false]
            rw [e3, e4, e5, decide_eq_true (show (((q ++ [y]).length : Int) > 0) by rw [List.length_append, List.length_singleton]; omega), cond_true, Option.bind_some, falls]
            cases decide (ordL y.r x.r ≥ 0)
            · cases big x.n <;> rfl
            · rfl
        · rfl
      · rfl
    · rfl
theorem row_loop1 {ρ : Type} (n : Nat) (hn : 40 ≤ n) (l : List Val) (hl : l.length ≤ 30) (v7 : List Cnt) (v8 : Int) (v9 : List Cnt) (v10 v11 : Int) (o : Cnt × Unit) (kx : List Cnt × Int × List Cnt × Int × Int × (Cnt × Unit) × Unit → Option ρ) (kr : Int × Unit → Option ρ) :
    iterN (fun rc => bag_Check_s2 n rc kx kr) n (v7, v8, v9, v10, v11, l, (l.length : Int), 0, o, ()) = bif chks l 1 != 0 then kr (chks l 1, ()) else kx (v7, v8, v9, v10, v11, (o.1, ()), ()) := by
  rw [R_bag_Check_s2 n kx kr l n v7 v8 v9 v10 v11 o (by omega) (by omega)]
  have key : ∀ (r : List Val) (i : Int), foldK (F_bag_Check_s2 n kr) (fun (x : List Cnt × Int × List Cnt × Int × Int × (Cnt × Unit) × Unit) => kx (x.1, x.2.1, x.2.2.1, x.2.2.2.1, x.2.2.2.2.1, ((Ev.Cnt.mk x.2.2.2.2.2.1.1.r x.2.2.2.2.2.1.1.n), ()), ())) i r (v7, v8, v9, v10, v11, (o.1, ()), ()) = bif chks r 1 != 0 then kr (chks r 1, ()) else kx (v7, v8, v9, v10, v11, (o.1, ()), ()) := by
    intro r
    induction r with
    | nil => intro i; rfl
    | cons x r ih =>
      intro i
      rw [foldK, chks]
      unfold F_bag_Check_s2
      dsimp only
      rw [Val.eta, Check_ok x n hn, Option.bind_some]
      dsimp only
      cases hc : chk x 1 != 0
      · rw [cond_false, cond_false]
        exact ih (i + 1)
      · rw [cond_true, cond_true, hc]; rfl
  exact key l 0
theorem row_loop2 {ρ : Type} (n : Nat) (hn : 40 ≤ n) (l : List Val) (hl : l.length ≤ 30) (v7 : List Cnt) (v8 : Int) (v9 : List Cnt) (v10 v11 : Int) (o : Cnt × Unit) (kx : List Cnt × Int × List Cnt × Int × Int × (Cnt × Unit) × Unit → Option ρ) (kr : Int × Unit → Option ρ) :
    iterN (fun rc => espalierref_CheckBag_s2 n rc kx kr) n (v7, v8, v9, v10, v11, l, (l.length : Int), 0, o, ()) = bif chks l 1 != 0 then kr (chks l 1, ()) else kx (v7, v8, v9, v10, v11, (o.1, ()), ()) := by
  rw [R_espalierref_CheckBag_s2 n kx kr l n v7 v8 v9 v10 v11 o (by omega) (by omega)]
  have key : ∀ (r : List Val) (i : Int), foldK (F_espalierref_CheckBag_s2 n kr) (fun (x : List Cnt × Int × List Cnt × Int × Int × (Cnt × Unit) × Unit) => kx (x.1, x.2.1, x.2.2.1, x.2.2.2.1, x.2.2.2.2.1, ((Ev.Cnt.mk x.2.2.2.2.2.1.1.r x.2.2.2.2.2.1.1.n), ()), ())) i r (v7, v8, v9, v10, v11, (o.1, ()), ()) = bif chks r 1 != 0 then kr (chks r 1, ()) else kx (v7, v8, v9, v10, v11, (o.1, ()), ()) := by
    intro r
    induction r with
    | nil => intro i; rfl
    | cons x r ih =>
      intro i
      rw [foldK, chks]
      unfold F_espalierref_CheckBag_s2
      dsimp only
      rw [Val.eta, rcheck_ok x 1 n (by omega) (by omega) (by omega), Option.bind_some]
      dsimp only
      cases hc : chk x 1 != 0
      · rw [cond_false, cond_false]
        exact ih (i + 1)
      · rw [cond_true, cond_true, hc]; rfl
  exact key l 0
theorem ix_mem {α : Type} {l : List α} {i : Int} {x : α} (h : ix l i = some x) : x ∈ l := by
  unfold ix at h
  split at h
  · exact List.mem_of_getElem? h
  · cases h
theorem bcheck_ok (l : List Cnt) (n : Nat) (hw : ∀ c ∈ l, cOk c) (hn : bSz l + 2100 ≤ n) : bag_Check n (l, ()) = some (bgE l, ()) := by
  unfold bag_Check bgE
  dsimp only
  cases hb : decide ((l.length : Int) > 2000) with
  | true => rfl
  | false =>
    have h4 := of_decide_eq_false hb
    rw [cond_false, cond_false]
    refine (range_list l (fun i (u : Unit) => (l, l, (l.length : Int), i, ())) _ (bgB l) (fun _ => some (0, ())) (fun rec i u => ?_) (by omega) n () (by omega)).trans (bg_fold l (by omega) l [] rfl)
    unfold bag_Check_s0 bgB
    dsimp only
    cases decide (i < (l.length : Int))
    · rfl
    · rw [cond_true, cond_true]
      cases hx : ix l i with
      | none => rfl
      | some c =>
        rw [Option.bind_some, Option.bind_some]
        cases h5 : decide ((c.r.length : Int) > 30)
        · have h5 := of_decide_eq_false h5
          rw [cond_false, cond_false]
          refine (row_loop1 n (by omega) c.r (by omega) l i l _ i (c, ()) _ _).trans ?_
          cases chks c.r 1 != 0
          · rw [cond_false, cond_false]
            dsimp only
            cases c.n == 0
            · rw [cond_false, cond_false]
              cases decide (i > 0)
              · rfl
              · rw [cond_true, cond_true]
                cases hp : ix l (IntKind.wrap .i64 (i - 1)) with
                | none => rfl
                | some p =>
                  have hm := ix_mem hp
                  rw [Option.bind_some, Option.bind_some, compare_ok p.r c.r n (hw p hm).1.1 (hw p hm).1.2 (by have := bSz_mem hm; omega), Option.bind_some]
                  rfl
            · rfl
          · rfl
        · rfl
theorem rbcheck_ok (l : List Cnt) (n : Nat) (hw : ∀ c ∈ l, cOk c) (hn : bSz l + 2100 ≤ n) : espalierref_CheckBag n (l, ()) = some (bgE l, ()) := by
  unfold espalierref_CheckBag bgE
  dsimp only
  cases hb : decide ((l.length : Int) > 2000) with
  | true => rfl
  | false =>
    have h4 := of_decide_eq_false hb
    rw [cond_false, cond_false]
    refine (range_list l (fun i (u : Unit) => (l, l, (l.length : Int), i, ())) _ (bgB l) (fun _ => some (0, ())) (fun rec i u => ?_) (by omega) n () (by omega)).trans (bg_fold l (by omega) l [] rfl)
    unfold espalierref_CheckBag_s0 bgB
    dsimp only
    cases decide (i < (l.length : Int))
    · rfl
    · rw [cond_true, cond_true]
      cases hx : ix l i with
      | none => rfl
      | some c =>
        rw [Option.bind_some, Option.bind_some]
        cases h5 : decide ((c.r.length : Int) > 30)
        · have h5 := of_decide_eq_false h5
          rw [cond_false, cond_false]
          refine (row_loop2 n (by omega) c.r (by omega) l i l _ i (c, ()) _ _).trans ?_
          cases chks c.r 1 != 0
          · rw [cond_false, cond_false]
            dsimp only
            cases c.n == 0
            · rw [cond_false, cond_false]
              cases decide (i > 0)
              · rfl
              · rw [cond_true, cond_true]
                cases hp : ix l (IntKind.wrap .i64 (i - 1)) with
                | none => rfl
                | some p =>
                  have hm := ix_mem hp
                  rw [Option.bind_some, Option.bind_some, rcompare_ok p.r c.r n (hw p hm).1.1 (hw p hm).1.2 (by have := bSz_mem hm; omega), Option.bind_some]
                  rfl
            · rfl
          · rfl
        · rfl
end Pure

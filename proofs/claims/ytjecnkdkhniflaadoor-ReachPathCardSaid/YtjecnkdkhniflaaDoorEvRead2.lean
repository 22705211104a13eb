/- EV: how more kinds of arguments read as plain data. -/
import Derived.Test.YtjecnkdkhniflaaDoorEvRead
namespace Esp
open Go Go.ChangeShapes Go.RowKit
set_option linter.unusedSimpArgs false
set_option linter.unusedVariables false
variable [Tabs]
section
variable {P : Program} {t ti tb tq : TypeId} {fs : Array Field}
def qOk (q : List (List Ev.Cnt)) : Prop := q.length ≤ maxLen ∧ ∀ x ∈ q, x.length ≤ maxLen ∧ ∀ c ∈ x, cOk c
def uOk (u : Ev.Guest) : Prop := wfI .i64 u.view ∧ qOk u.queue ∧ True ∧ wfI .i64 u.at_
omit [Tabs] in
theorem sumOn_len {α : Type} {f : α → Nat} (l : List α) (h : ∀ x ∈ l, 1 ≤ f x) : l.length ≤ sumOn f l := by
  induction l with
  | nil => simp [sumOn]
  | cons x r ih =>
    have h1 := h x (by simp)
    have h2 := ih fun y hy => h y (by simp [hy])
    simp only [sumOn, List.length_cons]
    omega
omit [Tabs] in
theorem Rd.guest {tx tc : TypeId} (ht : P.underlying t = some (.struct fs)) (hf : fs.toList.map (fun f => (f.type, f.offset)) = [(ti, 0), (tq, 1), (tb, 2), (ti, 3)]) (hz : P.cellsOf t = 4) (hi : P.underlying ti = some (.int .i64)) (z1 : P.cellsOf ti = 1) (z2 : P.cellsOf tq = 1) (hb : P.underlying tb = some .bool) (z3 : P.cellsOf tb = 1)
    (hq : P.underlying tq = some (.slice tx)) (zx : P.cellsOf tx = 1) (hx : P.underlying tx = some (.slice tc)) (zc : P.cellsOf tc = 2) (hc : ∀ fuel, Rd P tc (cells .cnt) cOk (fun _ => 0) fuel) (fuel : Nat) : Rd P t (cells .guest) uOk (fun u => u.queue.length) fuel :=
  Rd.map (enc' := cells .guest) (J' := uOk) (bk' := fun u => u.queue.length) (Rd.struct ht hf hz fun m hm => RdS.cons z1 rfl rfl (Rd.toI m hi) (RdS.cons z2 rfl rfl (Rd.nl (.lst .cnt) hq zx fun n _ => Rd.nl .cnt hx zc fun k _ => hc k) (RdS.cons z3 rfl rfl (Rd.toB m hb) (RdS.cons z1 rfl rfl (Rd.toI m hi) RdS.nil))))
    (fun x => Ev.Guest.mk x.1 x.2.1 x.2.2.1 x.2.2.2.1) (fun x => rfl) (fun x hx => ⟨hx.1, hx.2.1, hx.2.2.1, hx.2.2.2.1⟩) fun x => by
      have := sumOn_len (f := fun l : List Ev.Cnt => sumOn (fun _ => 0) l + 1) x.2.1 fun _ _ => by omega
      have hh : ∀ S : Nat, S ≤ (1 + (S + 1 + (1 + (1 + 0)))) + 1 := fun S => by omega
      exact Nat.le_trans this (hh _)
end
end Esp

/- How bags and guests read as plain data, with what they weigh. -/
import Derived.Test.YtheaknjhanchbaaDoorEvRead2
namespace Esp
open Go Go.ChangeShapes Go.RowKit
set_option linter.unusedSimpArgs false
set_option linter.unusedVariables false
variable {P : Program} {t ti tv tln tb tq : TypeId} {fs : Array Field}
theorem Rd.cntU (ht : P.underlying t = some (.struct fs)) (hf : fs.toList.map (fun f => (f.type, f.offset)) = [(tln, 0), (ti, 1)]) (hz : P.cellsOf t = 2) (hi : P.underlying ti = some (.int .i64)) (z1 : P.cellsOf ti = 1) (z2 : P.cellsOf tln = 1)
    (hln : P.underlying tln = some (.slice tv)) (zv : P.cellsOf tv = 4) (hv : ∀ fuel, Rd P tv (cells .val) vOk vBulk fuel) (fuel : Nat) : Rd P t (cells .cnt) cOk (fun c => sumOn vBulk c.r + 1) fuel :=
  Rd.map (enc' := cells .cnt) (J' := cOk) (bk' := fun c => sumOn vBulk c.r + 1) (Rd.struct ht hf hz fun m hm => RdS.cons z2 rfl rfl (Rd.nl .val hln zv fun n _ => hv n) (RdS.cons z1 rfl rfl (Rd.toI m hi) RdS.nil))
    (fun x => Ev.Cnt.mk x.1 x.2.1) (fun x => rfl) (fun x hx => ⟨hx.1, hx.2.1⟩) fun x => by
      show sumOn vBulk x.1 + 1 ≤ ((sumOn vBulk x.1 + 1) + (1 + 0)) + 1
      omega
theorem Rd.guestU {tx tc : TypeId} (ht : P.underlying t = some (.struct fs)) (hf : fs.toList.map (fun f => (f.type, f.offset)) = [(ti, 0), (tq, 1), (tb, 2), (ti, 3)]) (hz : P.cellsOf t = 4) (hi : P.underlying ti = some (.int .i64)) (z1 : P.cellsOf ti = 1) (z2 : P.cellsOf tq = 1) (hb : P.underlying tb = some .bool) (z3 : P.cellsOf tb = 1)
    (hq : P.underlying tq = some (.slice tx)) (zx : P.cellsOf tx = 1) (hx : P.underlying tx = some (.slice tc)) (zc : P.cellsOf tc = 2) {bk : Ev.Cnt → Nat} (hc : ∀ fuel, Rd P tc (cells .cnt) cOk bk fuel) (fuel : Nat) : Rd P t (cells .guest) uOk (fun u => sumOn (fun x => sumOn bk x + 1) u.queue) fuel :=
  Rd.map (enc' := cells .guest) (J' := uOk) (bk' := fun u => sumOn (fun x => sumOn bk x + 1) u.queue) (Rd.struct ht hf hz fun m hm => RdS.cons z1 rfl rfl (Rd.toI m hi) (RdS.cons z2 rfl rfl (Rd.nl (.lst .cnt) hq zx fun n _ => Rd.nl .cnt hx zc fun k _ => hc k) (RdS.cons z3 rfl rfl (Rd.toB m hb) (RdS.cons z1 rfl rfl (Rd.toI m hi) RdS.nil))))
    (fun x => Ev.Guest.mk x.1 x.2.1 x.2.2.1 x.2.2.2.1) (fun x => rfl) (fun x hx => ⟨hx.1, hx.2.1, hx.2.2.1, hx.2.2.2.1⟩) fun x => by
      have hh : ∀ S : Nat, S ≤ (1 + (S + 1 + (1 + (1 + 0)))) + 1 := fun S => by omega
      exact hh _
end Esp

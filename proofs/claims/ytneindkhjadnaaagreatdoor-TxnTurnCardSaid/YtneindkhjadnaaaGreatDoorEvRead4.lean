/- EV: how differences of graphs read as plain data. -/
import Derived.Test.YtneindkhjadnaaaGreatDoorEvRead2
namespace Esp
open Go Go.ChangeShapes Go.RowKit
set_option linter.unusedSimpArgs false
set_option linter.unusedVariables false
variable {P : Program} {t ti tln tle : TypeId} {fs : Array Field}
def dlOk (d : Ev.Delta) : Prop := (d.gone.length ≤ maxLen ∧ ∀ x ∈ d.gone, nOk x) ∧ (d.fresh.length ≤ maxLen ∧ ∀ x ∈ d.fresh, nOk x) ∧ (d.goneE.length ≤ maxLen ∧ ∀ x ∈ d.goneE, eOk x) ∧ (d.freshE.length ≤ maxLen ∧ ∀ x ∈ d.freshE, eOk x) ∧ wfI .i64 d.src ∧ wfI .i64 d.dst
theorem Rd.delta {tn te : TypeId} (ht : P.underlying t = some (.struct fs)) (hf : fs.toList.map (fun f => (f.type, f.offset)) = [(tln, 0), (tln, 1), (tle, 2), (tle, 3), (ti, 4), (ti, 5)]) (hz : P.cellsOf t = 6) (hi : P.underlying ti = some (.int .i64)) (z1 : P.cellsOf ti = 1) (z2 : P.cellsOf tln = 1) (z3 : P.cellsOf tle = 1)
    (hln : P.underlying tln = some (.slice tn)) (zn : P.cellsOf tn = 3) (hn : ∀ fuel, Rd P tn (cells .node) nOk (fun _ => 0) fuel) (hle : P.underlying tle = some (.slice te)) (ze : P.cellsOf te = 5) (he : ∀ fuel, Rd P te (cells .edg) eOk (fun _ => 0) fuel) (fuel : Nat) : Rd P t (cells .delta) dlOk (fun _ => 0) fuel :=
  Rd.map (enc' := cells .delta) (J' := dlOk) (bk' := fun _ => 0) (Rd.struct ht hf hz fun m hm => RdS.cons z2 rfl rfl (Rd.nl .node hln zn fun n _ => hn n) (RdS.cons z2 rfl rfl (Rd.nl .node hln zn fun n _ => hn n) (RdS.cons z3 rfl rfl (Rd.nl .edg hle ze fun n _ => he n) (RdS.cons z3 rfl rfl (Rd.nl .edg hle ze fun n _ => he n) (RdS.cons z1 rfl rfl (Rd.toI m hi) (RdS.cons z1 rfl rfl (Rd.toI m hi) RdS.nil))))))
    (fun x => Ev.Delta.mk x.1 x.2.1 x.2.2.1 x.2.2.2.1 x.2.2.2.2.1 x.2.2.2.2.2.1) (fun x => rfl) (fun x hx => ⟨hx.1, hx.2.1, hx.2.2.1, hx.2.2.2.1, hx.2.2.2.2.1, hx.2.2.2.2.2.1⟩) fun _ => Nat.zero_le _
end Esp

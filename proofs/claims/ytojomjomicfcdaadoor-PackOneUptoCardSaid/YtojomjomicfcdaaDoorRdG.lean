/- How graphs read as plain data, with what they weigh. -/
import Derived.Test.YtojomjomicfcdaaDoorEvRead2
namespace Esp
open Go Go.ChangeShapes Go.RowKit
set_option linter.unusedSimpArgs false
set_option linter.unusedVariables false
variable {P : Program} {t ti tv tln tls ts tlp tn te tle : TypeId} {fs : Array Field}
theorem Rd.prpU (ht : P.underlying t = some (.struct fs)) (hf : fs.toList.map (fun f => (f.type, f.offset)) = [(ts, 0), (tv, 1)]) (hz : P.cellsOf t = 5) (hs : P.underlying ts = some .string) (z1 : P.cellsOf ts = 1) (z2 : P.cellsOf tv = 4)
    (hv : ∀ fuel, Rd P tv (cells .val) vOk vBulk fuel) (fuel : Nat) : Rd P t (cells .prp) pOk (fun p => vBulk p.val) fuel :=
  Rd.map (enc' := cells .prp) (J' := pOk) (bk' := fun p => vBulk p.val) (Rd.struct ht hf hz fun m hm => RdS.cons z1 rfl rfl (Rd.toS m hs) (RdS.cons z2 rfl rfl (hv m) RdS.nil))
    (fun x => Ev.Prp.mk x.1 x.2.1) (fun x => by simp only [List.append_nil]; rfl) (fun x hx => ⟨hx.1, hx.2.1⟩) fun x => by
      have hh : ∀ a S : Nat, S ≤ (a + (S + 0)) + 1 := fun a S => by omega
      exact hh _ _
theorem Rd.nodeU {bk : Ev.Prp → Nat} (ht : P.underlying t = some (.struct fs)) (hf : fs.toList.map (fun f => (f.type, f.offset)) = [(ti, 0), (tls, 1), (tlp, 2)]) (hz : P.cellsOf t = 3) (hi : P.underlying ti = some (.int .i64)) (z1 : P.cellsOf ti = 1) (z2 : P.cellsOf tls = 1) (z3 : P.cellsOf tlp = 1)
    (hls : P.underlying tls = some (.slice ts)) (hs : P.underlying ts = some .string) (zs : P.cellsOf ts = 1) (hlp : P.underlying tlp = some (.slice tv)) (zp : P.cellsOf tv = 5) (hp : ∀ fuel, Rd P tv (cells .prp) pOk bk fuel) (fuel : Nat) : Rd P t (cells .node) nOk (fun x => sumOn bk x.props) fuel :=
  Rd.map (enc' := cells .node) (J' := nOk) (bk' := fun x => sumOn bk x.props) (Rd.struct ht hf hz fun m hm => RdS.cons z1 rfl rfl (Rd.toI m hi) (RdS.cons z2 rfl rfl (Rd.nl .str hls zs fun n _ => Rd.toS n hs) (RdS.cons z3 rfl rfl (Rd.nl .prp hlp zp fun n _ => hp n) RdS.nil)))
    (fun x => Ev.Node.mk x.1 x.2.1 x.2.2.1) (fun x => rfl) (fun x hx => ⟨hx.1, hx.2.1, hx.2.2.1⟩) fun x => by
      have hh : ∀ a b S : Nat, S ≤ (a + (b + (S + 1 + 0))) + 1 := fun a b S => by omega
      exact hh _ _ _
theorem Rd.edgU {bk : Ev.Prp → Nat} (ht : P.underlying t = some (.struct fs)) (hf : fs.toList.map (fun f => (f.type, f.offset)) = [(ti, 0), (ti, 1), (ti, 2), (ts, 3), (tlp, 4)]) (hz : P.cellsOf t = 5) (hi : P.underlying ti = some (.int .i64)) (z1 : P.cellsOf ti = 1) (hs : P.underlying ts = some .string) (z2 : P.cellsOf ts = 1) (z3 : P.cellsOf tlp = 1)
    (hlp : P.underlying tlp = some (.slice tv)) (zp : P.cellsOf tv = 5) (hp : ∀ fuel, Rd P tv (cells .prp) pOk bk fuel) (fuel : Nat) : Rd P t (cells .edg) eOk (fun x => sumOn bk x.props) fuel :=
  Rd.map (enc' := cells .edg) (J' := eOk) (bk' := fun x => sumOn bk x.props) (Rd.struct ht hf hz fun m hm => RdS.cons z1 rfl rfl (Rd.toI m hi) (RdS.cons z1 rfl rfl (Rd.toI m hi) (RdS.cons z1 rfl rfl (Rd.toI m hi) (RdS.cons z2 rfl rfl (Rd.toS m hs) (RdS.cons z3 rfl rfl (Rd.nl .prp hlp zp fun n _ => hp n) RdS.nil)))))
    (fun x => Ev.Edg.mk x.1 x.2.1 x.2.2.1 x.2.2.2.1 x.2.2.2.2.1) (fun x => rfl) (fun x hx => ⟨hx.1, hx.2.1, hx.2.2.1, hx.2.2.2.1, hx.2.2.2.2.1⟩) fun x => by
      have hh : ∀ a b c d S : Nat, S ≤ (a + (b + (c + (d + (S + 1 + 0))))) + 1 := fun a b c d S => by omega
      exact hh _ _ _ _ _
theorem Rd.graphU {bn : Ev.Node → Nat} {be : Ev.Edg → Nat} (ht : P.underlying t = some (.struct fs)) (hf : fs.toList.map (fun f => (f.type, f.offset)) = [(tln, 0), (tle, 1), (ti, 2)]) (hz : P.cellsOf t = 3) (hi : P.underlying ti = some (.int .i64)) (z1 : P.cellsOf ti = 1) (z2 : P.cellsOf tln = 1) (z3 : P.cellsOf tle = 1)
    (hln : P.underlying tln = some (.slice tn)) (zn : P.cellsOf tn = 3) (hn : ∀ fuel, Rd P tn (cells .node) nOk bn fuel) (hle : P.underlying tle = some (.slice te)) (ze : P.cellsOf te = 5) (he : ∀ fuel, Rd P te (cells .edg) eOk be fuel) (fuel : Nat) : Rd P t (cells .graph) gOk (fun g => sumOn bn g.nodes + sumOn be g.edges) fuel :=
  Rd.map (enc' := cells .graph) (J' := gOk) (bk' := fun g => sumOn bn g.nodes + sumOn be g.edges) (Rd.struct ht hf hz fun m hm => RdS.cons z2 rfl rfl (Rd.nl .node hln zn fun n _ => hn n) (RdS.cons z3 rfl rfl (Rd.nl .edg hle ze fun n _ => he n) (RdS.cons z1 rfl rfl (Rd.toI m hi) RdS.nil)))
    (fun x => Ev.Graph.mk x.1 x.2.1 x.2.2.1) (fun x => rfl) (fun x hx => ⟨hx.1, hx.2.1, hx.2.2.1⟩) fun x => by
      have hh : ∀ a b c : Nat, a + b ≤ (a + 1 + (b + 1 + (c + 0))) + 1 := fun a b c => by omega
      exact hh _ _ _
end Esp

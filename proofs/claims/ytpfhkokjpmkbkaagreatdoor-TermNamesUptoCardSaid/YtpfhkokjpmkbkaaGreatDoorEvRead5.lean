/- EV: terms read with what they weigh. -/
import Derived.Test.YtpfhkokjpmkbkaaGreatDoorEvRead3
namespace Esp
open Go Ev
set_option linter.unusedSimpArgs false
set_option linter.unusedVariables false
mutual
def tBk : Term → Nat
  | .mk _ _ s a => s.size + 1 + tBks a
def tBks : List Term → Nat
  | [] => 0
  | x :: r => tBk x + tBks r
end
theorem tBks_sum : ∀ l : List Term, tBks l = sumOn tBk l
  | [] => rfl
  | x :: r => by simp only [tBks, sumOn, tBks_sum r]
theorem Rd.termU {P : Program} {t ti tv ts tl : TypeId} {fs : Array Field} (ht : P.underlying t = some (.struct fs)) (hf : fs.toList.map (fun f => (f.type, f.offset)) = [(ti, 0), (tv, 1), (ts, 5), (tl, 6)]) (hz : P.cellsOf t = 7)
    (hi : P.underlying ti = some (.int .i64)) (hs : P.underlying ts = some .string) (hl : P.underlying tl = some (.slice t)) (z1 : P.cellsOf ti = 1) (z2 : P.cellsOf ts = 1) (z3 : P.cellsOf tl = 1) (z4 : P.cellsOf tv = 4)
    (hv : ∀ fuel, Rd P tv (cells .val) vOk vBulk fuel) : ∀ fuel, Rd P t (cells .term) tOk tBk fuel := by
  intro fuel
  induction fuel using Nat.strongRecOn with
  | _ fuel ih =>
    have step : ∀ m, m < fuel → RdS P [(ti, 0), (tv, 1), (ts, 5), (tl, 6)] 0 7 _ _ _ m := fun m hm =>
      RdS.cons z1 rfl rfl (Rd.toI m hi) (RdS.cons z4 rfl rfl (hv m) (RdS.cons z2 rfl rfl (Rd.toS m hs) (RdS.cons z3 rfl rfl
        (Rd.nl .term hl hz fun n hn => ih n (by omega)) RdS.nil)))
    intro H e w vs d ps hh
    refine Rd.map (enc' := cells .term) (J' := tOk) (bk' := tBk) (Rd.struct ht hf hz step) (fun x => Ev.Term.mk x.1 x.2.1 x.2.2.1 x.2.2.2.1) (fun x => by simp only [List.append_nil]; rfl) (fun x hx => ?_) (fun x => ?_) e w vs d ps hh
    · rw [tOk, tOks_iff]
      exact ⟨hx.1, hx.2.1, hx.2.2.1, hx.2.2.2.1⟩
    · simp only [tBk, tBks_sum]
      omega
end Esp

/- Each of these functions computes what its plain function computes (written by gen.py). -/
import Derived.Test.YtcdfapbfocdhjaaDoorProg
import Derived.KernelRfl
import Derived.Test.YtcdfapbfocdhjaaDoorEvDraw
import Derived.Test.YtcdfapbfocdhjaaDoorPHigh
namespace Go.Proofs.YtcdfapbfocdhjaaDoor.Hi
open Go Esp Ev Pure
set_option linter.unusedSimpArgs false
set_option linter.unusedVariables false
set_option maxRecDepth 100000
set_option maxHeartbeats 1000000
def okds : List FuncId := []
variable [Tabs]
variable [QuietD Tryd.prog]
def TT : List (TypeId × Ty) := [(2, .i64), (3, .i64), (4, .bool), (5, .u8), (6, .u8), (9, .str), (10, .str), (11, .str), (12, .u64), (21, .i32), (22, (.lst .val)), (24, .val), (25, .i64), (33, (.lst .u8)), (48, .u64), (56, .u64), (62, .u32), (71, .u8), (72, .u8), (75, .i32), (76, .i32)]

noncomputable def F_espalierref_high : FnT := ⟨2, ⟨[], [(0, .u64), (1, .i64)], [], []⟩, [.v .str], []⟩
noncomputable def C_espalierref_high : Code := bodyOf Tryd.f15
noncomputable def M_espalierref_high : List (Nat × ArgM) := []
instance : DfOk M_espalierref_high := .none rfl
noncomputable def O_espalierref_high {ρ : Type} (n : Nat) : Orc ρ := orcNil
omit [QuietD Tryd.prog] in
theorem O_espalierref_high_ok {ρ : Type} (n : Nat) : (O_espalierref_high n : Orc ρ).ok Tryd.prog := orcNil_ok
noncomputable def T_espalierref_high_s0 : Tm := ⟨[], [(0, .u64), (5, .str), (6, .i64), (7, .i64)], [], []⟩
noncomputable def X_espalierref_high_s0 : Tm := ⟨[], [(5, .str)], [], []⟩
noncomputable def R_espalierref_high_s0 : Tm := ⟨[], [], [], []⟩
noncomputable def L_espalierref_high_s0 {ρ : Type} (n : Nat) : LOrc ρ := lorcNil
omit [Tabs] [QuietD Tryd.prog] in
theorem s_espalierref_high_s0 {ρ : Type} (n : Nat) (rec : T_espalierref_high_s0.den → Option ρ) kx kr s : dStep Tryd.prog 20 TT M_espalierref_high (O_espalierref_high n) (L_espalierref_high_s0 n) dorcNil 0 (lbody 1000 C_espalierref_high 0) T_espalierref_high_s0 X_espalierref_high_s0 R_espalierref_high_s0 ⟨[], [], []⟩ rec kx kr s = espalierref_high_s0 n rec kx kr s := by kernel_rfl
noncomputable def L_espalierref_high {ρ : Type} (n : Nat) : LOrc ρ := lorcCons 0 (loopL 20 0 n T_espalierref_high_s0 X_espalierref_high_s0 R_espalierref_high_s0 ⟨[], [], []⟩ (espalierref_high_s0 n)) (lorcNil)
omit [Tabs] [QuietD Tryd.prog] in
theorem e_espalierref_high (n : Nat) (x) : evF Tryd.prog 20 TT M_espalierref_high F_espalierref_high (O_espalierref_high n) (L_espalierref_high n) dorcNil ⟨[], [], []⟩ [.tmp 4] C_espalierref_high x = espalierref_high n x := by kernel_rfl
theorem ok_espalierref_high (n : Nat) : Contract Tryd.prog 15 F_espalierref_high (espalierref_high n) :=
  Contract.of_ev (c := C_espalierref_high) (N := 20) Tryd.func15 (by kernel_rfl) (by kernel_rfl) (by kernel_rfl) (by kernel_rfl) (O_espalierref_high_ok n) dorcNil_ok (.of (l := [(0, (lbody 1000 C_espalierref_high 0))]) (by kernel_rfl) ⟨.head (loopL_sound (O_espalierref_high_ok n) dorcNil_ok (.of (l := []) (by kernel_rfl) trivial) (s_espalierref_high_s0 n)), trivial⟩) (e_espalierref_high n)

end Go.Proofs.YtcdfapbfocdhjaaDoor.Hi

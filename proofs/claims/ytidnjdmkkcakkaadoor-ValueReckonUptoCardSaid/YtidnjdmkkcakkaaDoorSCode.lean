/- Each of these functions computes what its plain function computes (written by gen.py). -/
import Derived.Test.YtidnjdmkkcakkaaDoorSBase
import Derived.KernelRfl
import Derived.Test.YtidnjdmkkcakkaaDoorEvDraw
import Derived.Test.YtidnjdmkkcakkaaDoorEvQuiet
import Derived.WalkKit
import Derived.Test.YtidnjdmkkcakkaaDoorPCode
namespace Go.Proofs.YtidnjdmkkcakkaaDoor
open Go Esp Ev Pure
set_option linter.unusedSimpArgs false
set_option linter.unusedVariables false
set_option maxRecDepth 100000
set_option maxHeartbeats 1000000
theorem quiet_37 (args : Array Value) (w : World) : (callFunc 37 args).run Tryd.prog w = .ok (.enter 37 args) w ∧ CallsD Tryd.prog 37 args .returning w fun e u w' => u = .returning ∧ (∃ v, e = .returned v) ∧ w' = w :=
  quiet_closure (fn := Tryd.f37) (by kernel_rfl) rfl (by kernel_rfl) (by kernel_rfl) (by kernel_rfl) (by kernel_rfl) args w
/-- the functions that may be put off -/
def okds : List FuncId := [37]
theorem quiets : ∀ g ∈ okds, ∀ (args : Array Value) (w : World), (callFunc g args).run Tryd.prog w = .ok (.enter g args) w ∧ CallsD Tryd.prog g args .returning w fun e u w' => u = .returning ∧ (∃ v, e = .returned v) ∧ w' = w := by
  intro g hg args w
  simp only [okds, List.mem_cons, List.not_mem_nil, or_false] at hg
  rcases hg with rfl
  · exact quiet_37 args w
variable [Tabs]
/-- what is put off -/
class UDef : Prop where
  ok : ∀ g ∈ ([37] : List Nat), g ∈ Tabs.okd
variable [QuietD Tryd.prog] [UDef] [UTabs]
def TT : List (TypeId × Ty) := [(2, .i64), (3, .i64), (4, .bool), (5, .u8), (6, .u8), (9, .str), (10, .str), (11, .str), (12, .u64), (21, .i32), (22, (.lst .val)), (24, .val), (25, .i64), (37, (.lst .u32)), (50, .u64), (59, .u64), (64, (.lst .u8)), (79, .u32), (107, .i64), (142, .u8), (143, .u8), (145, .i32), (146, .i32)]

noncomputable def F_espalierlaw_ValueReckon : FnT := ⟨3, ⟨[], [(0, .str), (1, .val), (2, .val)], []⟩, [.v .bool], []⟩
noncomputable def F_value_Reckon : FnT := ⟨3, ⟨[], [(0, .str), (1, .val), (2, .val)], []⟩, [.v .val, .v .i64], []⟩
noncomputable def F_value_add : FnT := ⟨2, ⟨[], [(0, .i64), (1, .i64)], []⟩, [.v .i64, .v .bool], []⟩
noncomputable def C_value_add : Code := bodyOf Tryd.f8
noncomputable def M_value_add : List (Nat × ArgM) := []
instance : DfOk M_value_add := .none rfl
noncomputable def O_value_add {ρ : Type} : Orc ρ := orcNil
omit [QuietD Tryd.prog] [UDef] [UTabs] in
theorem O_value_add_ok {ρ : Type} : (O_value_add : Orc ρ).ok Tryd.prog := orcNil_ok
noncomputable def L_value_add {ρ : Type} : LOrc ρ := lorcNil
omit [Tabs] [QuietD Tryd.prog] [UDef] [UTabs] in
theorem e_value_add (x) : evF Tryd.prog 17 TT M_value_add F_value_add (O_value_add) (L_value_add) dorcNil ⟨[], [], []⟩ [.tmp 4, .tmp 5] C_value_add x = value_add x := by kernel_rfl
omit [UDef] [UTabs] in
theorem ok_value_add : Contract Tryd.prog 8 F_value_add (value_add) :=
  Contract.of_ev (c := C_value_add) (N := 17) Tryd.func8 (by kernel_rfl) (by kernel_rfl) (by kernel_rfl) (by kernel_rfl) (O_value_add_ok) dorcNil_ok (.of (l := []) (by kernel_rfl) trivial) (e_value_add)

noncomputable def F_value_Copy : FnT := ⟨1, ⟨[], [(0, .val)], []⟩, [.v .val], []⟩
noncomputable def C_value_Copy : Code := bodyOf Tryd.f11
noncomputable def M_value_Copy : List (Nat × ArgM) := []
instance : DfOk M_value_Copy := .none rfl
noncomputable def O_value_Copy {ρ : Type} (self_value_Copy : Ev.Val × Unit → Option (Ev.Val × Unit)) (n : Nat) : Orc ρ := orcCons 11 F_value_Copy (self_value_Copy) (orcNil)
omit [QuietD Tryd.prog] [UDef] [UTabs] in
theorem O_value_Copy_ok {ρ : Type} (self_value_Copy : Ev.Val × Unit → Option (Ev.Val × Unit)) (h_value_Copy : Contract Tryd.prog 11 F_value_Copy self_value_Copy) (n : Nat) : (O_value_Copy self_value_Copy n : Orc ρ).ok Tryd.prog := orcCons_ok (by kernel_rfl) (h_value_Copy) (orcNil_ok)
noncomputable def T_value_Copy_s0 : Tm := ⟨[(1, .ptr 1 0), (2, .ptr 2 0)], [(9, (.lst .val)), (10, .i64), (11, .i64)], [(1, .box [.d .i64, .d .i64, .d .str, .ref (.own 300043)]), (2, .box [.d .val]), (300043, .arr 24 .val)]⟩
noncomputable def X_value_Copy_s0 : Tm := ⟨[(1, .ptr 1 0), (2, .ptr 2 0)], [], [(1, .box [.d .i64, .d .i64, .d .str, .ref (.own 300043)]), (2, .box [.d .val]), (300043, .arr 24 .val)]⟩
noncomputable def R_value_Copy_s0 : Tm := ⟨[], [], []⟩
noncomputable def L_value_Copy_s0 {ρ : Type} (self_value_Copy : Ev.Val × Unit → Option (Ev.Val × Unit)) (n : Nat) : LOrc ρ := lorcNil
omit [Tabs] [QuietD Tryd.prog] [UDef] [UTabs] in
theorem s_value_Copy_s0 {ρ : Type} (self_value_Copy : Ev.Val × Unit → Option (Ev.Val × Unit)) (n : Nat) (rec : T_value_Copy_s0.den → Option ρ) kx kr s : dStep Tryd.prog 24 TT M_value_Copy (O_value_Copy self_value_Copy n) (L_value_Copy_s0 self_value_Copy n) (evDraw Tryd.prog 24 TT M_value_Copy (O_value_Copy self_value_Copy n)) 0 (lbody 1000 C_value_Copy 0) T_value_Copy_s0 X_value_Copy_s0 R_value_Copy_s0 ⟨[], [], [(1, 3, 300043, 24, 4)]⟩ rec kx kr s = value_Copy_s0 self_value_Copy n rec kx kr s := by kernel_rfl
noncomputable def L_value_Copy {ρ : Type} (self_value_Copy : Ev.Val × Unit → Option (Ev.Val × Unit)) (n : Nat) : LOrc ρ := lorcCons 0 (loopL 24 0 n T_value_Copy_s0 X_value_Copy_s0 R_value_Copy_s0 ⟨[], [], [(1, 3, 300043, 24, 4)]⟩ (value_Copy_s0 self_value_Copy n)) (lorcNil)
omit [Tabs] [QuietD Tryd.prog] [UDef] [UTabs] in
theorem e_value_Copy (self_value_Copy : Ev.Val × Unit → Option (Ev.Val × Unit)) (n : Nat) (x) : evF Tryd.prog 24 TT M_value_Copy F_value_Copy (O_value_Copy self_value_Copy n) (L_value_Copy self_value_Copy n) (evDraw Tryd.prog 24 TT M_value_Copy (O_value_Copy self_value_Copy n)) ⟨[], [], []⟩ [.cell 2 24] C_value_Copy x = value_Copy_b self_value_Copy n x := by kernel_rfl
omit [UDef] [UTabs] in
theorem okb_value_Copy (self_value_Copy : Ev.Val × Unit → Option (Ev.Val × Unit)) (h_value_Copy : Contract Tryd.prog 11 F_value_Copy self_value_Copy) (n : Nat) : Contract Tryd.prog 11 F_value_Copy (value_Copy_b self_value_Copy n) :=
  Contract.of_ev (c := C_value_Copy) (N := 24) Tryd.func11 (by kernel_rfl) (by kernel_rfl) (by kernel_rfl) (by kernel_rfl) (O_value_Copy_ok self_value_Copy h_value_Copy n) (evDraw_ok (O_value_Copy_ok self_value_Copy h_value_Copy n) (by kernel_rfl)) (.of (l := [(0, (lbody 1000 C_value_Copy 0))]) (by kernel_rfl) ⟨.head (loopL_sound (O_value_Copy_ok self_value_Copy h_value_Copy n) (evDraw_ok (O_value_Copy_ok self_value_Copy h_value_Copy n) (by kernel_rfl)) (.of (l := []) (by kernel_rfl) trivial) (s_value_Copy_s0 self_value_Copy n)), trivial⟩) (e_value_Copy self_value_Copy n)
omit [UDef] [UTabs] in
theorem ok_value_Copy : ∀ n, Contract Tryd.prog 11 F_value_Copy (value_Copy n)
  | 0 => fun _ _ h => by cases h
  | n + 1 => okb_value_Copy _ (ok_value_Copy n) n

noncomputable def F_value_Copy_own : FnT := ⟨1, ⟨[], [(0, .val)], []⟩, [.mix [.d .i64, .d .i64, .d .str, .ref (.own 300043)]], [(300043, .arr 24 .val)]⟩
noncomputable def C_value_Copy_own : Code := bodyOf Tryd.f11
noncomputable def M_value_Copy_own : List (Nat × ArgM) := []
instance : DfOk M_value_Copy_own := .none rfl
noncomputable def O_value_Copy_own {ρ : Type} (n : Nat) : Orc ρ := orcCons 11 F_value_Copy (value_Copy n) (orcNil)
omit [UDef] [UTabs] in
theorem O_value_Copy_own_ok {ρ : Type} (n : Nat) : (O_value_Copy_own n : Orc ρ).ok Tryd.prog := orcCons_ok (by kernel_rfl) (ok_value_Copy n) (orcNil_ok)
noncomputable def T_value_Copy_own_s0 : Tm := ⟨[(1, .ptr 1 0), (2, .ptr 2 0)], [(9, (.lst .val)), (10, .i64), (11, .i64)], [(1, .box [.d .i64, .d .i64, .d .str, .ref (.own 300043)]), (2, .box [.d .val]), (300043, .arr 24 .val)]⟩
noncomputable def X_value_Copy_own_s0 : Tm := ⟨[(1, .ptr 1 0), (2, .ptr 2 0)], [], [(1, .box [.d .i64, .d .i64, .d .str, .ref (.own 300043)]), (2, .box [.d .val]), (300043, .arr 24 .val)]⟩
noncomputable def R_value_Copy_own_s0 : Tm := ⟨[], [], []⟩
noncomputable def L_value_Copy_own_s0 {ρ : Type} (n : Nat) : LOrc ρ := lorcNil
omit [Tabs] [QuietD Tryd.prog] [UDef] [UTabs] in
theorem s_value_Copy_own_s0 {ρ : Type} (n : Nat) (rec : T_value_Copy_own_s0.den → Option ρ) kx kr s : dStep Tryd.prog 24 TT M_value_Copy_own (O_value_Copy_own n) (L_value_Copy_own_s0 n) (evDraw Tryd.prog 24 TT M_value_Copy_own (O_value_Copy_own n)) 0 (lbody 1000 C_value_Copy_own 0) T_value_Copy_own_s0 X_value_Copy_own_s0 R_value_Copy_own_s0 ⟨[], [], [(1, 3, 300043, 24, 4)]⟩ rec kx kr s = value_Copy_own_s0 n rec kx kr s := by kernel_rfl
noncomputable def L_value_Copy_own {ρ : Type} (n : Nat) : LOrc ρ := lorcCons 0 (loopL 24 0 n T_value_Copy_own_s0 X_value_Copy_own_s0 R_value_Copy_own_s0 ⟨[], [], [(1, 3, 300043, 24, 4)]⟩ (value_Copy_own_s0 n)) (lorcNil)
omit [Tabs] [QuietD Tryd.prog] [UDef] [UTabs] in
theorem e_value_Copy_own (n : Nat) (x) : evF Tryd.prog 24 TT M_value_Copy_own F_value_Copy_own (O_value_Copy_own n) (L_value_Copy_own n) (evDraw Tryd.prog 24 TT M_value_Copy_own (O_value_Copy_own n)) ⟨[], [], []⟩ [.cell 2 24] C_value_Copy_own x = value_Copy_own n x := by kernel_rfl
omit [UDef] [UTabs] in
theorem ok_value_Copy_own (n : Nat) : Contract Tryd.prog 11 F_value_Copy_own (value_Copy_own n) :=
  Contract.of_ev (c := C_value_Copy_own) (N := 24) Tryd.func11 (by kernel_rfl) (by kernel_rfl) (by kernel_rfl) (by kernel_rfl) (O_value_Copy_own_ok n) (evDraw_ok (O_value_Copy_own_ok n) (by kernel_rfl)) (.of (l := [(0, (lbody 1000 C_value_Copy_own 0))]) (by kernel_rfl) ⟨.head (loopL_sound (O_value_Copy_own_ok n) (evDraw_ok (O_value_Copy_own_ok n) (by kernel_rfl)) (.of (l := []) (by kernel_rfl) trivial) (s_value_Copy_own_s0 n)), trivial⟩) (e_value_Copy_own n)

noncomputable def F_value_sub : FnT := ⟨2, ⟨[], [(0, .i64), (1, .i64)], []⟩, [.v .i64, .v .bool], []⟩
noncomputable def C_value_sub : Code := bodyOf Tryd.f9
noncomputable def M_value_sub : List (Nat × ArgM) := []
instance : DfOk M_value_sub := .none rfl
noncomputable def O_value_sub {ρ : Type} : Orc ρ := orcNil
omit [QuietD Tryd.prog] [UDef] [UTabs] in
theorem O_value_sub_ok {ρ : Type} : (O_value_sub : Orc ρ).ok Tryd.prog := orcNil_ok
noncomputable def L_value_sub {ρ : Type} : LOrc ρ := lorcNil
omit [Tabs] [QuietD Tryd.prog] [UDef] [UTabs] in
theorem e_value_sub (x) : evF Tryd.prog 17 TT M_value_sub F_value_sub (O_value_sub) (L_value_sub) dorcNil ⟨[], [], []⟩ [.tmp 4, .tmp 5] C_value_sub x = value_sub x := by kernel_rfl
omit [UDef] [UTabs] in
theorem ok_value_sub : Contract Tryd.prog 9 F_value_sub (value_sub) :=
  Contract.of_ev (c := C_value_sub) (N := 17) Tryd.func9 (by kernel_rfl) (by kernel_rfl) (by kernel_rfl) (by kernel_rfl) (O_value_sub_ok) dorcNil_ok (.of (l := []) (by kernel_rfl) trivial) (e_value_sub)

noncomputable def F_value_mul : FnT := ⟨2, ⟨[], [(0, .i64), (1, .i64)], []⟩, [.v .i64, .v .bool], []⟩
noncomputable def F_value_mul_1 : FnT := ⟨1, ⟨[], [(0, .i64)], []⟩, [.v .u64], []⟩
noncomputable def C_value_mul_1 : Code := bodyOf Tryd.f24
noncomputable def M_value_mul_1 : List (Nat × ArgM) := []
instance : DfOk M_value_mul_1 := .none rfl
noncomputable def O_value_mul_1 {ρ : Type} : Orc ρ := orcNil
omit [QuietD Tryd.prog] [UDef] [UTabs] in
theorem O_value_mul_1_ok {ρ : Type} : (O_value_mul_1 : Orc ρ).ok Tryd.prog := orcNil_ok
noncomputable def L_value_mul_1 {ρ : Type} : LOrc ρ := lorcNil
omit [Tabs] [QuietD Tryd.prog] [UDef] [UTabs] in
theorem e_value_mul_1 (x) : evF Tryd.prog 10 TT M_value_mul_1 F_value_mul_1 (O_value_mul_1) (L_value_mul_1) dorcNil ⟨[], [], []⟩ [.tmp 2] C_value_mul_1 x = value_mul_1 x := by kernel_rfl
omit [UDef] [UTabs] in
theorem ok_value_mul_1 : Contract Tryd.prog 24 F_value_mul_1 (value_mul_1) :=
  Contract.of_ev (c := C_value_mul_1) (N := 10) Tryd.func24 (by kernel_rfl) (by kernel_rfl) (by kernel_rfl) (by kernel_rfl) (O_value_mul_1_ok) dorcNil_ok (.of (l := []) (by kernel_rfl) trivial) (e_value_mul_1)

noncomputable def F_math_bits_Mul64 : FnT := ⟨2, ⟨[], [(0, .u64), (1, .u64)], []⟩, [.v .u64, .v .u64], []⟩
noncomputable def C_math_bits_Mul64 : Code := bodyOf Tryd.f25
noncomputable def M_math_bits_Mul64 : List (Nat × ArgM) := []
instance : DfOk M_math_bits_Mul64 := .none rfl
noncomputable def O_math_bits_Mul64 {ρ : Type} : Orc ρ := orcNil
omit [QuietD Tryd.prog] [UDef] [UTabs] in
theorem O_math_bits_Mul64_ok {ρ : Type} : (O_math_bits_Mul64 : Orc ρ).ok Tryd.prog := orcNil_ok
noncomputable def L_math_bits_Mul64 {ρ : Type} : LOrc ρ := lorcNil
omit [Tabs] [QuietD Tryd.prog] [UDef] [UTabs] in
theorem e_math_bits_Mul64 (x) : evF Tryd.prog 51 TT M_math_bits_Mul64 F_math_bits_Mul64 (O_math_bits_Mul64) (L_math_bits_Mul64) dorcNil ⟨[], [], []⟩ [.tmp 4, .tmp 5] C_math_bits_Mul64 x = math_bits_Mul64 x := by kernel_rfl
omit [UDef] [UTabs] in
theorem ok_math_bits_Mul64 : Contract Tryd.prog 25 F_math_bits_Mul64 (math_bits_Mul64) :=
  Contract.of_ev (c := C_math_bits_Mul64) (N := 51) Tryd.func25 (by kernel_rfl) (by kernel_rfl) (by kernel_rfl) (by kernel_rfl) (O_math_bits_Mul64_ok) dorcNil_ok (.of (l := []) (by kernel_rfl) trivial) (e_math_bits_Mul64)

noncomputable def C_value_mul : Code := bodyOf Tryd.f10
noncomputable def M_value_mul : List (Nat × ArgM) := [(24, ⟨[], [], [], true⟩), (25, ⟨[], [], [], true⟩)]
instance : DfOk M_value_mul := .none rfl
noncomputable def O_value_mul {ρ : Type} : Orc ρ := orcCons 24 F_value_mul_1 (value_mul_1) (orcCons 25 F_math_bits_Mul64 (math_bits_Mul64) (orcNil))
omit [UDef] [UTabs] in
theorem O_value_mul_ok {ρ : Type} : (O_value_mul : Orc ρ).ok Tryd.prog := orcCons_ok (by kernel_rfl) (ok_value_mul_1) (orcCons_ok (by kernel_rfl) (ok_math_bits_Mul64) (orcNil_ok))
noncomputable def L_value_mul {ρ : Type} : LOrc ρ := lorcNil
omit [Tabs] [QuietD Tryd.prog] [UDef] [UTabs] in
theorem e_value_mul (x) : evF Tryd.prog 45 TT M_value_mul F_value_mul (O_value_mul) (L_value_mul) dorcNil ⟨[], [], []⟩ [.tmp 4, .tmp 5] C_value_mul x = value_mul x := by kernel_rfl
omit [UDef] [UTabs] in
theorem ok_value_mul : Contract Tryd.prog 10 F_value_mul (value_mul) :=
  Contract.of_ev (c := C_value_mul) (N := 45) Tryd.func10 (by kernel_rfl) (by kernel_rfl) (by kernel_rfl) (by kernel_rfl) (O_value_mul_ok) dorcNil_ok (.of (l := []) (by kernel_rfl) trivial) (e_value_mul)

noncomputable def C_value_Reckon : Code := bodyOf Tryd.f4
noncomputable def M_value_Reckon : List (Nat × ArgM) := [(1500000011, ⟨[4, 3], [], [], false⟩), (999999999, ⟨[1], [], [], false⟩), (8, ⟨[], [], [], true⟩), (11, ⟨[], [], [300043], false⟩), (9, ⟨[], [], [], true⟩), (10, ⟨[], [], [], true⟩)]
instance : DfOk M_value_Reckon := .none rfl
noncomputable def O_value_Reckon {ρ : Type} (n : Nat) : Orc ρ := orcCons 8 F_value_add (value_add) (orcCons 11 F_value_Copy_own (value_Copy_own n) (orcCons 9 F_value_sub (value_sub) (orcCons 10 F_value_mul (value_mul) (orcNil))))
omit [UDef] [UTabs] in
theorem O_value_Reckon_ok {ρ : Type} (n : Nat) : (O_value_Reckon n : Orc ρ).ok Tryd.prog := orcCons_ok (by kernel_rfl) (ok_value_add) (orcCons_ok (by kernel_rfl) (ok_value_Copy_own n) (orcCons_ok (by kernel_rfl) (ok_value_sub) (orcCons_ok (by kernel_rfl) (ok_value_mul) (orcNil_ok))))
noncomputable def L_value_Reckon {ρ : Type} (n : Nat) : LOrc ρ := lorcNil
omit [Tabs] [QuietD Tryd.prog] [UDef] [UTabs] in
theorem e_value_Reckon (n : Nat) (x) : evF Tryd.prog 111 TT M_value_Reckon F_value_Reckon (O_value_Reckon n) (L_value_Reckon n) (evDraw Tryd.prog 111 TT M_value_Reckon (O_value_Reckon n)) ⟨[], [], []⟩ [.cell 6 24, .tmp 7] C_value_Reckon x = value_Reckon n x := by kernel_rfl
omit [UDef] [UTabs] in
theorem ok_value_Reckon (n : Nat) : Contract Tryd.prog 4 F_value_Reckon (value_Reckon n) :=
  Contract.of_ev (c := C_value_Reckon) (N := 111) Tryd.func4 (by kernel_rfl) (by kernel_rfl) (by kernel_rfl) (by kernel_rfl) (O_value_Reckon_ok n) (evDraw_ok (O_value_Reckon_ok n) (by kernel_rfl)) (.of (l := []) (by kernel_rfl) trivial) (e_value_Reckon n)

noncomputable def F_espalierref_ReckonOf : FnT := ⟨3, ⟨[], [(0, .str), (1, .val), (2, .val)], []⟩, [.v .val, .v .i64], []⟩
noncomputable def F_pespalierbig_Int_SetInt64 : FnT := ⟨2, ⟨[(0, .ptr 1000000 0)], [(1, .i64)], [(1000000, .box [.d .bool, .d (.lst .u32)])]⟩, [.ref (.ptr 1000000 0)], [(1000000, .box [.d .bool, .d (.lst .u32)])]⟩
noncomputable def F_espalierbig_words : FnT := ⟨1, ⟨[], [(0, .u64)], []⟩, [.v (.lst .u32)], []⟩
noncomputable def F_espalierbig_trim : FnT := ⟨1, ⟨[], [(0, (.lst .u32))], []⟩, [.v (.lst .u32)], []⟩
noncomputable def C_espalierbig_trim : Code := bodyOf Tryd.f44
noncomputable def M_espalierbig_trim : List (Nat × ArgM) := []
instance : DfOk M_espalierbig_trim := .none rfl
noncomputable def O_espalierbig_trim {ρ : Type} (n : Nat) : Orc ρ := orcNil
omit [QuietD Tryd.prog] [UDef] [UTabs] in
theorem O_espalierbig_trim_ok {ρ : Type} (n : Nat) : (O_espalierbig_trim n : Orc ρ).ok Tryd.prog := orcNil_ok
noncomputable def T_espalierbig_trim_s0 : Tm := ⟨[], [(0, (.lst .u32)), (3, .i64)], []⟩
noncomputable def X_espalierbig_trim_s0 : Tm := ⟨[], [(0, (.lst .u32)), (3, .i64)], []⟩
noncomputable def R_espalierbig_trim_s0 : Tm := ⟨[], [], []⟩
noncomputable def L_espalierbig_trim_s0 {ρ : Type} (n : Nat) : LOrc ρ := lorcNil
omit [Tabs] [QuietD Tryd.prog] [UDef] [UTabs] in
theorem s_espalierbig_trim_s0 {ρ : Type} (n : Nat) (rec : T_espalierbig_trim_s0.den → Option ρ) kx kr s : dStep Tryd.prog 21 TT M_espalierbig_trim (O_espalierbig_trim n) (L_espalierbig_trim_s0 n) dorcNil 0 (lbody 1000 C_espalierbig_trim 0) T_espalierbig_trim_s0 X_espalierbig_trim_s0 R_espalierbig_trim_s0 ⟨[], [], []⟩ rec kx kr s = espalierbig_trim_s0 n rec kx kr s := by kernel_rfl
noncomputable def L_espalierbig_trim {ρ : Type} (n : Nat) : LOrc ρ := lorcCons 0 (loopL 21 0 n T_espalierbig_trim_s0 X_espalierbig_trim_s0 R_espalierbig_trim_s0 ⟨[], [], []⟩ (espalierbig_trim_s0 n)) (lorcNil)
omit [Tabs] [QuietD Tryd.prog] [UDef] [UTabs] in
theorem e_espalierbig_trim (n : Nat) (x) : evF Tryd.prog 21 TT M_espalierbig_trim F_espalierbig_trim (O_espalierbig_trim n) (L_espalierbig_trim n) dorcNil ⟨[], [], []⟩ [.tmp 2] C_espalierbig_trim x = espalierbig_trim n x := by kernel_rfl
omit [UDef] [UTabs] in
theorem ok_espalierbig_trim (n : Nat) : Contract Tryd.prog 44 F_espalierbig_trim (espalierbig_trim n) :=
  Contract.of_ev (c := C_espalierbig_trim) (N := 21) Tryd.func44 (by kernel_rfl) (by kernel_rfl) (by kernel_rfl) (by kernel_rfl) (O_espalierbig_trim_ok n) dorcNil_ok (.of (l := [(0, (lbody 1000 C_espalierbig_trim 0))]) (by kernel_rfl) ⟨.head (loopL_sound (O_espalierbig_trim_ok n) dorcNil_ok (.of (l := []) (by kernel_rfl) trivial) (s_espalierbig_trim_s0 n)), trivial⟩) (e_espalierbig_trim n)

noncomputable def C_espalierbig_words : Code := bodyOf Tryd.f40
noncomputable def M_espalierbig_words : List (Nat × ArgM) := []
instance : DfOk M_espalierbig_words := .none rfl
noncomputable def O_espalierbig_words {ρ : Type} (n : Nat) : Orc ρ := orcCons 44 F_espalierbig_trim (espalierbig_trim n) (orcNil)
omit [UDef] [UTabs] in
theorem O_espalierbig_words_ok {ρ : Type} (n : Nat) : (O_espalierbig_words n : Orc ρ).ok Tryd.prog := orcCons_ok (by kernel_rfl) (ok_espalierbig_trim n) (orcNil_ok)
noncomputable def L_espalierbig_words {ρ : Type} (n : Nat) : LOrc ρ := lorcNil
omit [Tabs] [QuietD Tryd.prog] [UDef] [UTabs] in
theorem e_espalierbig_words (n : Nat) (x) : evF Tryd.prog 10 TT M_espalierbig_words F_espalierbig_words (O_espalierbig_words n) (L_espalierbig_words n) dorcNil ⟨[], [], []⟩ [.tmp 2] C_espalierbig_words x = espalierbig_words n x := by kernel_rfl
omit [UDef] [UTabs] in
theorem ok_espalierbig_words (n : Nat) : Contract Tryd.prog 40 F_espalierbig_words (espalierbig_words n) :=
  Contract.of_ev (c := C_espalierbig_words) (N := 10) Tryd.func40 (by kernel_rfl) (by kernel_rfl) (by kernel_rfl) (by kernel_rfl) (O_espalierbig_words_ok n) dorcNil_ok (.of (l := []) (by kernel_rfl) trivial) (e_espalierbig_words n)

noncomputable def F_pespalierbig_Int_give : FnT := ⟨3, ⟨[(0, .ptr 1000000 0)], [(1, .bool), (2, (.lst .u32))], [(1000000, .box [.d .bool, .d (.lst .u32)])]⟩, [.ref (.ptr 1000000 0)], [(1000000, .box [.d .bool, .d (.lst .u32)])]⟩
noncomputable def C_pespalierbig_Int_give : Code := bodyOf Tryd.f27
noncomputable def M_pespalierbig_Int_give : List (Nat × ArgM) := [(999999999, ⟨[1], [], [], false⟩)]
instance : DfOk M_pespalierbig_Int_give := .none rfl
noncomputable def O_pespalierbig_Int_give {ρ : Type} : Orc ρ := orcNil
omit [QuietD Tryd.prog] [UDef] [UTabs] in
theorem O_pespalierbig_Int_give_ok {ρ : Type} : (O_pespalierbig_Int_give : Orc ρ).ok Tryd.prog := orcNil_ok
noncomputable def L_pespalierbig_Int_give {ρ : Type} : LOrc ρ := lorcNil
omit [Tabs] [QuietD Tryd.prog] [UDef] [UTabs] in
theorem e_pespalierbig_Int_give (x) : evF Tryd.prog 21 TT M_pespalierbig_Int_give F_pespalierbig_Int_give (O_pespalierbig_Int_give) (L_pespalierbig_Int_give) dorcNil ⟨[], [], []⟩ [.tmp 6] C_pespalierbig_Int_give x = pespalierbig_Int_give x := by kernel_rfl
omit [UDef] [UTabs] in
theorem ok_pespalierbig_Int_give : Contract Tryd.prog 27 F_pespalierbig_Int_give (pespalierbig_Int_give) :=
  Contract.of_ev (c := C_pespalierbig_Int_give) (N := 21) Tryd.func27 (by kernel_rfl) (by kernel_rfl) (by kernel_rfl) (by kernel_rfl) (O_pespalierbig_Int_give_ok) dorcNil_ok (.of (l := []) (by kernel_rfl) trivial) (e_pespalierbig_Int_give)

noncomputable def C_pespalierbig_Int_SetInt64 : Code := bodyOf Tryd.f26
noncomputable def M_pespalierbig_Int_SetInt64 : List (Nat × ArgM) := [(999999999, ⟨[1], [], [], false⟩), (27, ⟨[0], [], [], false⟩)]
instance : DfOk M_pespalierbig_Int_SetInt64 := .none rfl
noncomputable def O_pespalierbig_Int_SetInt64 {ρ : Type} (n : Nat) : Orc ρ := orcCons 40 F_espalierbig_words (espalierbig_words n) (orcCons 27 F_pespalierbig_Int_give (pespalierbig_Int_give) (orcNil))
omit [UDef] [UTabs] in
theorem O_pespalierbig_Int_SetInt64_ok {ρ : Type} (n : Nat) : (O_pespalierbig_Int_SetInt64 n : Orc ρ).ok Tryd.prog := orcCons_ok (by kernel_rfl) (ok_espalierbig_words n) (orcCons_ok (by kernel_rfl) (ok_pespalierbig_Int_give) (orcNil_ok))
noncomputable def L_pespalierbig_Int_SetInt64 {ρ : Type} (n : Nat) : LOrc ρ := lorcNil
omit [Tabs] [QuietD Tryd.prog] [UDef] [UTabs] in
theorem e_pespalierbig_Int_SetInt64 (n : Nat) (x) : evF Tryd.prog 18 TT M_pespalierbig_Int_SetInt64 F_pespalierbig_Int_SetInt64 (O_pespalierbig_Int_SetInt64 n) (L_pespalierbig_Int_SetInt64 n) dorcNil ⟨[], [], []⟩ [.tmp 4] C_pespalierbig_Int_SetInt64 x = pespalierbig_Int_SetInt64 n x := by kernel_rfl
omit [UDef] [UTabs] in
theorem ok_pespalierbig_Int_SetInt64 (n : Nat) : Contract Tryd.prog 26 F_pespalierbig_Int_SetInt64 (pespalierbig_Int_SetInt64 n) :=
  Contract.of_ev (c := C_pespalierbig_Int_SetInt64) (N := 18) Tryd.func26 (by kernel_rfl) (by kernel_rfl) (by kernel_rfl) (by kernel_rfl) (O_pespalierbig_Int_SetInt64_ok n) dorcNil_ok (.of (l := []) (by kernel_rfl) trivial) (e_pespalierbig_Int_SetInt64 n)

noncomputable def F_espalierbig_NewInt : FnT := ⟨1, ⟨[], [(0, .i64)], []⟩, [.ref (.ptr 3 0)], [(3, .box [.d .bool, .d (.lst .u32)])]⟩
noncomputable def C_espalierbig_NewInt : Code := bodyOf Tryd.f12
noncomputable def M_espalierbig_NewInt : List (Nat × ArgM) := [(999999999, ⟨[1], [], [], false⟩), (26, ⟨[0], [], [], false⟩)]
instance : DfOk M_espalierbig_NewInt := .none rfl
noncomputable def O_espalierbig_NewInt {ρ : Type} (n : Nat) : Orc ρ := orcCons 26 F_pespalierbig_Int_SetInt64 (pespalierbig_Int_SetInt64 n) (orcNil)
omit [UDef] [UTabs] in
theorem O_espalierbig_NewInt_ok {ρ : Type} (n : Nat) : (O_espalierbig_NewInt n : Orc ρ).ok Tryd.prog := orcCons_ok (by kernel_rfl) (ok_pespalierbig_Int_SetInt64 n) (orcNil_ok)
noncomputable def L_espalierbig_NewInt {ρ : Type} (n : Nat) : LOrc ρ := lorcNil
omit [Tabs] [QuietD Tryd.prog] [UDef] [UTabs] in
theorem e_espalierbig_NewInt (n : Nat) (x) : evF Tryd.prog 6 TT M_espalierbig_NewInt F_espalierbig_NewInt (O_espalierbig_NewInt n) (L_espalierbig_NewInt n) dorcNil ⟨[], [], []⟩ [.tmp 2] C_espalierbig_NewInt x = espalierbig_NewInt n x := by kernel_rfl
omit [UDef] [UTabs] in
theorem ok_espalierbig_NewInt (n : Nat) : Contract Tryd.prog 12 F_espalierbig_NewInt (espalierbig_NewInt n) :=
  Contract.of_ev (c := C_espalierbig_NewInt) (N := 6) Tryd.func12 (by kernel_rfl) (by kernel_rfl) (by kernel_rfl) (by kernel_rfl) (O_espalierbig_NewInt_ok n) dorcNil_ok (.of (l := []) (by kernel_rfl) trivial) (e_espalierbig_NewInt n)

noncomputable def F_pespalierbig_Int_Add : FnT := ⟨3, ⟨[(0, .ptr 1000000 0), (1, .ptr 1000016 0), (2, .ptr 1000032 0)], [], [(1000000, .box [.d .bool, .d (.lst .u32)]), (1000016, .box [.d .bool, .d (.lst .u32)]), (1000032, .box [.d .bool, .d (.lst .u32)])]⟩, [.ref (.ptr 1000000 0)], [(1000000, .box [.d .bool, .d (.lst .u32)]), (1000016, .box [.d .bool, .d (.lst .u32)]), (1000032, .box [.d .bool, .d (.lst .u32)])]⟩
noncomputable def F_espalierbig_sum : FnT := ⟨4, ⟨[], [(0, .bool), (1, (.lst .u32)), (2, .bool), (3, (.lst .u32))], []⟩, [.v .bool, .v (.lst .u32)], []⟩
noncomputable def F_espalierbig_add : FnT := ⟨2, ⟨[], [(0, (.lst .u32)), (1, (.lst .u32))], []⟩, [.v (.lst .u32)], []⟩
noncomputable def C_espalierbig_add : Code := bodyOf Tryd.f41
noncomputable def M_espalierbig_add : List (Nat × ArgM) := [(999999999, ⟨[1], [], [], false⟩)]
instance : DfOk M_espalierbig_add := .none rfl
noncomputable def O_espalierbig_add {ρ : Type} (n : Nat) : Orc ρ := orcCons 44 F_espalierbig_trim (espalierbig_trim n) (orcNil)
omit [UDef] [UTabs] in
theorem O_espalierbig_add_ok {ρ : Type} (n : Nat) : (O_espalierbig_add n : Orc ρ).ok Tryd.prog := orcCons_ok (by kernel_rfl) (ok_espalierbig_trim n) (orcNil_ok)
noncomputable def T_espalierbig_add_s0 : Tm := ⟨[(5, .own 18)], [(0, (.lst .u32)), (1, (.lst .u32)), (6, .u64), (7, .i64)], [(18, .arr 79 .u32)]⟩
noncomputable def X_espalierbig_add_s0 : Tm := ⟨[(5, .own 18)], [(0, (.lst .u32)), (6, .u64)], [(18, .arr 79 .u32)]⟩
noncomputable def R_espalierbig_add_s0 : Tm := ⟨[], [], []⟩
noncomputable def L_espalierbig_add_s0 {ρ : Type} (n : Nat) : LOrc ρ := lorcNil
omit [Tabs] [QuietD Tryd.prog] [UDef] [UTabs] in
theorem s_espalierbig_add_s0 {ρ : Type} (n : Nat) (rec : T_espalierbig_add_s0.den → Option ρ) kx kr s : dStep Tryd.prog 58 TT M_espalierbig_add (O_espalierbig_add n) (L_espalierbig_add_s0 n) dorcNil 0 (lbody 1000 C_espalierbig_add 0) T_espalierbig_add_s0 X_espalierbig_add_s0 R_espalierbig_add_s0 ⟨[], [], []⟩ rec kx kr s = espalierbig_add_s0 n rec kx kr s := by kernel_rfl
noncomputable def L_espalierbig_add {ρ : Type} (n : Nat) : LOrc ρ := lorcCons 0 (loopL 58 0 n T_espalierbig_add_s0 X_espalierbig_add_s0 R_espalierbig_add_s0 ⟨[], [], []⟩ (espalierbig_add_s0 n)) (lorcNil)
omit [Tabs] [QuietD Tryd.prog] [UDef] [UTabs] in
theorem e_espalierbig_add (n : Nat) (x) : evF Tryd.prog 58 TT M_espalierbig_add F_espalierbig_add (O_espalierbig_add n) (L_espalierbig_add n) dorcNil ⟨[], [], []⟩ [.tmp 4] C_espalierbig_add x = espalierbig_add n x := by kernel_rfl
omit [UDef] [UTabs] in
theorem ok_espalierbig_add (n : Nat) : Contract Tryd.prog 41 F_espalierbig_add (espalierbig_add n) :=
  Contract.of_ev (c := C_espalierbig_add) (N := 58) Tryd.func41 (by kernel_rfl) (by kernel_rfl) (by kernel_rfl) (by kernel_rfl) (O_espalierbig_add_ok n) dorcNil_ok (.of (l := [(0, (lbody 1000 C_espalierbig_add 0))]) (by kernel_rfl) ⟨.head (loopL_sound (O_espalierbig_add_ok n) dorcNil_ok (.of (l := []) (by kernel_rfl) trivial) (s_espalierbig_add_s0 n)), trivial⟩) (e_espalierbig_add n)

noncomputable def F_espalierbig_cmp : FnT := ⟨2, ⟨[], [(0, (.lst .u32)), (1, (.lst .u32))], []⟩, [.v .i64], []⟩
noncomputable def C_espalierbig_cmp : Code := bodyOf Tryd.f42
noncomputable def M_espalierbig_cmp : List (Nat × ArgM) := []
instance : DfOk M_espalierbig_cmp := .none rfl
noncomputable def O_espalierbig_cmp {ρ : Type} (n : Nat) : Orc ρ := orcNil
omit [QuietD Tryd.prog] [UDef] [UTabs] in
theorem O_espalierbig_cmp_ok {ρ : Type} (n : Nat) : (O_espalierbig_cmp n : Orc ρ).ok Tryd.prog := orcNil_ok
noncomputable def T_espalierbig_cmp_s0 : Tm := ⟨[], [(0, (.lst .u32)), (1, (.lst .u32)), (5, .i64)], []⟩
noncomputable def X_espalierbig_cmp_s0 : Tm := ⟨[], [], []⟩
noncomputable def R_espalierbig_cmp_s0 : Tm := ⟨[], [(4, .i64)], []⟩
noncomputable def L_espalierbig_cmp_s0 {ρ : Type} (n : Nat) : LOrc ρ := lorcNil
omit [Tabs] [QuietD Tryd.prog] [UDef] [UTabs] in
theorem s_espalierbig_cmp_s0 {ρ : Type} (n : Nat) (rec : T_espalierbig_cmp_s0.den → Option ρ) kx kr s : dStep Tryd.prog 41 TT M_espalierbig_cmp (O_espalierbig_cmp n) (L_espalierbig_cmp_s0 n) (evDraw Tryd.prog 41 TT M_espalierbig_cmp (O_espalierbig_cmp n)) 0 (lbody 1000 C_espalierbig_cmp 0) T_espalierbig_cmp_s0 X_espalierbig_cmp_s0 R_espalierbig_cmp_s0 ⟨[], [], []⟩ rec kx kr s = espalierbig_cmp_s0 n rec kx kr s := by kernel_rfl
noncomputable def L_espalierbig_cmp {ρ : Type} (n : Nat) : LOrc ρ := lorcCons 0 (loopL 41 0 n T_espalierbig_cmp_s0 X_espalierbig_cmp_s0 R_espalierbig_cmp_s0 ⟨[], [], []⟩ (espalierbig_cmp_s0 n)) (lorcNil)
omit [Tabs] [QuietD Tryd.prog] [UDef] [UTabs] in
theorem e_espalierbig_cmp (n : Nat) (x) : evF Tryd.prog 41 TT M_espalierbig_cmp F_espalierbig_cmp (O_espalierbig_cmp n) (L_espalierbig_cmp n) (evDraw Tryd.prog 41 TT M_espalierbig_cmp (O_espalierbig_cmp n)) ⟨[], [], []⟩ [.tmp 4] C_espalierbig_cmp x = espalierbig_cmp n x := by kernel_rfl
omit [UDef] [UTabs] in
theorem ok_espalierbig_cmp (n : Nat) : Contract Tryd.prog 42 F_espalierbig_cmp (espalierbig_cmp n) :=
  Contract.of_ev (c := C_espalierbig_cmp) (N := 41) Tryd.func42 (by kernel_rfl) (by kernel_rfl) (by kernel_rfl) (by kernel_rfl) (O_espalierbig_cmp_ok n) (evDraw_ok (O_espalierbig_cmp_ok n) (by kernel_rfl)) (.of (l := [(0, (lbody 1000 C_espalierbig_cmp 0))]) (by kernel_rfl) ⟨.head (loopL_sound (O_espalierbig_cmp_ok n) (evDraw_ok (O_espalierbig_cmp_ok n) (by kernel_rfl)) (.of (l := []) (by kernel_rfl) trivial) (s_espalierbig_cmp_s0 n)), trivial⟩) (e_espalierbig_cmp n)

noncomputable def F_espalierbig_sub : FnT := ⟨2, ⟨[], [(0, (.lst .u32)), (1, (.lst .u32))], []⟩, [.v (.lst .u32)], []⟩
noncomputable def C_espalierbig_sub : Code := bodyOf Tryd.f43
noncomputable def M_espalierbig_sub : List (Nat × ArgM) := [(999999999, ⟨[1], [], [], false⟩)]
instance : DfOk M_espalierbig_sub := .none rfl
noncomputable def O_espalierbig_sub {ρ : Type} (n : Nat) : Orc ρ := orcCons 44 F_espalierbig_trim (espalierbig_trim n) (orcNil)
omit [UDef] [UTabs] in
theorem O_espalierbig_sub_ok {ρ : Type} (n : Nat) : (O_espalierbig_sub n : Orc ρ).ok Tryd.prog := orcCons_ok (by kernel_rfl) (ok_espalierbig_trim n) (orcNil_ok)
noncomputable def T_espalierbig_sub_s0 : Tm := ⟨[(5, .own 11)], [(0, (.lst .u32)), (1, (.lst .u32)), (6, .u64), (7, .i64)], [(11, .arr 79 .u32)]⟩
noncomputable def X_espalierbig_sub_s0 : Tm := ⟨[(5, .own 11)], [], [(11, .arr 79 .u32)]⟩
noncomputable def R_espalierbig_sub_s0 : Tm := ⟨[], [], []⟩
noncomputable def L_espalierbig_sub_s0 {ρ : Type} (n : Nat) : LOrc ρ := lorcNil
omit [Tabs] [QuietD Tryd.prog] [UDef] [UTabs] in
theorem s_espalierbig_sub_s0 {ρ : Type} (n : Nat) (rec : T_espalierbig_sub_s0.den → Option ρ) kx kr s : dStep Tryd.prog 45 TT M_espalierbig_sub (O_espalierbig_sub n) (L_espalierbig_sub_s0 n) dorcNil 0 (lbody 1000 C_espalierbig_sub 0) T_espalierbig_sub_s0 X_espalierbig_sub_s0 R_espalierbig_sub_s0 ⟨[], [], []⟩ rec kx kr s = espalierbig_sub_s0 n rec kx kr s := by kernel_rfl
noncomputable def L_espalierbig_sub {ρ : Type} (n : Nat) : LOrc ρ := lorcCons 0 (loopL 45 0 n T_espalierbig_sub_s0 X_espalierbig_sub_s0 R_espalierbig_sub_s0 ⟨[], [], []⟩ (espalierbig_sub_s0 n)) (lorcNil)
omit [Tabs] [QuietD Tryd.prog] [UDef] [UTabs] in
theorem e_espalierbig_sub (n : Nat) (x) : evF Tryd.prog 45 TT M_espalierbig_sub F_espalierbig_sub (O_espalierbig_sub n) (L_espalierbig_sub n) dorcNil ⟨[], [], []⟩ [.tmp 4] C_espalierbig_sub x = espalierbig_sub n x := by kernel_rfl
omit [UDef] [UTabs] in
theorem ok_espalierbig_sub (n : Nat) : Contract Tryd.prog 43 F_espalierbig_sub (espalierbig_sub n) :=
  Contract.of_ev (c := C_espalierbig_sub) (N := 45) Tryd.func43 (by kernel_rfl) (by kernel_rfl) (by kernel_rfl) (by kernel_rfl) (O_espalierbig_sub_ok n) dorcNil_ok (.of (l := [(0, (lbody 1000 C_espalierbig_sub 0))]) (by kernel_rfl) ⟨.head (loopL_sound (O_espalierbig_sub_ok n) dorcNil_ok (.of (l := []) (by kernel_rfl) trivial) (s_espalierbig_sub_s0 n)), trivial⟩) (e_espalierbig_sub n)

noncomputable def C_espalierbig_sum : Code := bodyOf Tryd.f28
noncomputable def M_espalierbig_sum : List (Nat × ArgM) := [(42, ⟨[], [], [], true⟩)]
instance : DfOk M_espalierbig_sum := .none rfl
noncomputable def O_espalierbig_sum {ρ : Type} (n : Nat) : Orc ρ := orcCons 41 F_espalierbig_add (espalierbig_add n) (orcCons 42 F_espalierbig_cmp (espalierbig_cmp n) (orcCons 43 F_espalierbig_sub (espalierbig_sub n) (orcNil)))
omit [UDef] [UTabs] in
theorem O_espalierbig_sum_ok {ρ : Type} (n : Nat) : (O_espalierbig_sum n : Orc ρ).ok Tryd.prog := orcCons_ok (by kernel_rfl) (ok_espalierbig_add n) (orcCons_ok (by kernel_rfl) (ok_espalierbig_cmp n) (orcCons_ok (by kernel_rfl) (ok_espalierbig_sub n) (orcNil_ok)))
noncomputable def L_espalierbig_sum {ρ : Type} (n : Nat) : LOrc ρ := lorcNil
omit [Tabs] [QuietD Tryd.prog] [UDef] [UTabs] in
theorem e_espalierbig_sum (n : Nat) (x) : evF Tryd.prog 29 TT M_espalierbig_sum F_espalierbig_sum (O_espalierbig_sum n) (L_espalierbig_sum n) dorcNil ⟨[], [], []⟩ [.tmp 8, .tmp 9] C_espalierbig_sum x = espalierbig_sum n x := by kernel_rfl
omit [UDef] [UTabs] in
theorem ok_espalierbig_sum (n : Nat) : Contract Tryd.prog 28 F_espalierbig_sum (espalierbig_sum n) :=
  Contract.of_ev (c := C_espalierbig_sum) (N := 29) Tryd.func28 (by kernel_rfl) (by kernel_rfl) (by kernel_rfl) (by kernel_rfl) (O_espalierbig_sum_ok n) dorcNil_ok (.of (l := []) (by kernel_rfl) trivial) (e_espalierbig_sum n)

noncomputable def C_pespalierbig_Int_Add : Code := bodyOf Tryd.f13
noncomputable def M_pespalierbig_Int_Add : List (Nat × ArgM) := [(999999999, ⟨[1], [], [], false⟩), (27, ⟨[0], [], [], false⟩)]
instance : DfOk M_pespalierbig_Int_Add := .none rfl
noncomputable def O_pespalierbig_Int_Add {ρ : Type} (n : Nat) : Orc ρ := orcCons 28 F_espalierbig_sum (espalierbig_sum n) (orcCons 27 F_pespalierbig_Int_give (pespalierbig_Int_give) (orcNil))
omit [UDef] [UTabs] in
theorem O_pespalierbig_Int_Add_ok {ρ : Type} (n : Nat) : (O_pespalierbig_Int_Add n : Orc ρ).ok Tryd.prog := orcCons_ok (by kernel_rfl) (ok_espalierbig_sum n) (orcCons_ok (by kernel_rfl) (ok_pespalierbig_Int_give) (orcNil_ok))
noncomputable def L_pespalierbig_Int_Add {ρ : Type} (n : Nat) : LOrc ρ := lorcNil
omit [Tabs] [QuietD Tryd.prog] [UDef] [UTabs] in
theorem e_pespalierbig_Int_Add (n : Nat) (x) : evF Tryd.prog 28 TT M_pespalierbig_Int_Add F_pespalierbig_Int_Add (O_pespalierbig_Int_Add n) (L_pespalierbig_Int_Add n) (evDraw Tryd.prog 28 TT M_pespalierbig_Int_Add (O_pespalierbig_Int_Add n)) ⟨[], [], []⟩ [.tmp 6] C_pespalierbig_Int_Add x = pespalierbig_Int_Add n x := by kernel_rfl
omit [UDef] [UTabs] in
theorem ok_pespalierbig_Int_Add (n : Nat) : Contract Tryd.prog 13 F_pespalierbig_Int_Add (pespalierbig_Int_Add n) :=
  Contract.of_ev (c := C_pespalierbig_Int_Add) (N := 28) Tryd.func13 (by kernel_rfl) (by kernel_rfl) (by kernel_rfl) (by kernel_rfl) (O_pespalierbig_Int_Add_ok n) (evDraw_ok (O_pespalierbig_Int_Add_ok n) (by kernel_rfl)) (.of (l := []) (by kernel_rfl) trivial) (e_pespalierbig_Int_Add n)

noncomputable def F_pespalierbig_Int_IsInt64 : FnT := ⟨1, ⟨[(0, .ptr 1000000 0)], [], [(1000000, .box [.d .bool, .d (.lst .u32)])]⟩, [.v .bool], [(1000000, .box [.d .bool, .d (.lst .u32)])]⟩
noncomputable def F_espalierbig_length : FnT := ⟨1, ⟨[], [(0, (.lst .u32))], []⟩, [.v .i64], []⟩
noncomputable def C_espalierbig_length : Code := bodyOf Tryd.f30
noncomputable def M_espalierbig_length : List (Nat × ArgM) := []
instance : DfOk M_espalierbig_length := .none rfl
noncomputable def O_espalierbig_length {ρ : Type} (n : Nat) : Orc ρ := orcNil
omit [QuietD Tryd.prog] [UDef] [UTabs] in
theorem O_espalierbig_length_ok {ρ : Type} (n : Nat) : (O_espalierbig_length n : Orc ρ).ok Tryd.prog := orcNil_ok
noncomputable def T_espalierbig_length_s0 : Tm := ⟨[], [(0, (.lst .u32)), (3, .i64), (4, .u32)], []⟩
noncomputable def X_espalierbig_length_s0 : Tm := ⟨[], [(0, (.lst .u32)), (3, .i64)], []⟩
noncomputable def R_espalierbig_length_s0 : Tm := ⟨[], [], []⟩
noncomputable def L_espalierbig_length_s0 {ρ : Type} (n : Nat) : LOrc ρ := lorcNil
omit [Tabs] [QuietD Tryd.prog] [UDef] [UTabs] in
theorem s_espalierbig_length_s0 {ρ : Type} (n : Nat) (rec : T_espalierbig_length_s0.den → Option ρ) kx kr s : dStep Tryd.prog 26 TT M_espalierbig_length (O_espalierbig_length n) (L_espalierbig_length_s0 n) dorcNil 0 (lbody 1000 C_espalierbig_length 0) T_espalierbig_length_s0 X_espalierbig_length_s0 R_espalierbig_length_s0 ⟨[], [], []⟩ rec kx kr s = espalierbig_length_s0 n rec kx kr s := by kernel_rfl
noncomputable def L_espalierbig_length {ρ : Type} (n : Nat) : LOrc ρ := lorcCons 0 (loopL 26 0 n T_espalierbig_length_s0 X_espalierbig_length_s0 R_espalierbig_length_s0 ⟨[], [], []⟩ (espalierbig_length_s0 n)) (lorcNil)
omit [Tabs] [QuietD Tryd.prog] [UDef] [UTabs] in
theorem e_espalierbig_length (n : Nat) (x) : evF Tryd.prog 26 TT M_espalierbig_length F_espalierbig_length (O_espalierbig_length n) (L_espalierbig_length n) dorcNil ⟨[], [], []⟩ [.tmp 2] C_espalierbig_length x = espalierbig_length n x := by kernel_rfl
omit [UDef] [UTabs] in
theorem ok_espalierbig_length (n : Nat) : Contract Tryd.prog 30 F_espalierbig_length (espalierbig_length n) :=
  Contract.of_ev (c := C_espalierbig_length) (N := 26) Tryd.func30 (by kernel_rfl) (by kernel_rfl) (by kernel_rfl) (by kernel_rfl) (O_espalierbig_length_ok n) dorcNil_ok (.of (l := [(0, (lbody 1000 C_espalierbig_length 0))]) (by kernel_rfl) ⟨.head (loopL_sound (O_espalierbig_length_ok n) dorcNil_ok (.of (l := []) (by kernel_rfl) trivial) (s_espalierbig_length_s0 n)), trivial⟩) (e_espalierbig_length n)

noncomputable def F_pespalierbig_Int_TrailingZeroBits : FnT := ⟨1, ⟨[(0, .ptr 1000000 0)], [], [(1000000, .box [.d .bool, .d (.lst .u32)])]⟩, [.v .u64], [(1000000, .box [.d .bool, .d (.lst .u32)])]⟩
noncomputable def F_espalierbig_bit : FnT := ⟨2, ⟨[], [(0, (.lst .u32)), (1, .i64)], []⟩, [.v .u64], []⟩
noncomputable def C_espalierbig_bit : Code := bodyOf Tryd.f45
noncomputable def M_espalierbig_bit : List (Nat × ArgM) := []
instance : DfOk M_espalierbig_bit := .none rfl
noncomputable def O_espalierbig_bit {ρ : Type} : Orc ρ := orcNil
omit [QuietD Tryd.prog] [UDef] [UTabs] in
theorem O_espalierbig_bit_ok {ρ : Type} : (O_espalierbig_bit : Orc ρ).ok Tryd.prog := orcNil_ok
noncomputable def L_espalierbig_bit {ρ : Type} : LOrc ρ := lorcNil
omit [Tabs] [QuietD Tryd.prog] [UDef] [UTabs] in
theorem e_espalierbig_bit (x) : evF Tryd.prog 25 TT M_espalierbig_bit F_espalierbig_bit (O_espalierbig_bit) (L_espalierbig_bit) dorcNil ⟨[], [], []⟩ [.tmp 4] C_espalierbig_bit x = espalierbig_bit x := by kernel_rfl
omit [UDef] [UTabs] in
theorem ok_espalierbig_bit : Contract Tryd.prog 45 F_espalierbig_bit (espalierbig_bit) :=
  Contract.of_ev (c := C_espalierbig_bit) (N := 25) Tryd.func45 (by kernel_rfl) (by kernel_rfl) (by kernel_rfl) (by kernel_rfl) (O_espalierbig_bit_ok) dorcNil_ok (.of (l := []) (by kernel_rfl) trivial) (e_espalierbig_bit)

noncomputable def C_pespalierbig_Int_TrailingZeroBits : Code := bodyOf Tryd.f31
noncomputable def M_pespalierbig_Int_TrailingZeroBits : List (Nat × ArgM) := [(45, ⟨[], [], [], true⟩)]
instance : DfOk M_pespalierbig_Int_TrailingZeroBits := .none rfl
noncomputable def O_pespalierbig_Int_TrailingZeroBits {ρ : Type} (n : Nat) : Orc ρ := orcCons 45 F_espalierbig_bit (espalierbig_bit) (orcNil)
omit [UDef] [UTabs] in
theorem O_pespalierbig_Int_TrailingZeroBits_ok {ρ : Type} (n : Nat) : (O_pespalierbig_Int_TrailingZeroBits n : Orc ρ).ok Tryd.prog := orcCons_ok (by kernel_rfl) (ok_espalierbig_bit) (orcNil_ok)
noncomputable def T_pespalierbig_Int_TrailingZeroBits_s0 : Tm := ⟨[(0, .ptr 1000000 0)], [(3, .u64)], [(1000000, .box [.d .bool, .d (.lst .u32)])]⟩
noncomputable def X_pespalierbig_Int_TrailingZeroBits_s0 : Tm := ⟨[], [(3, .u64)], [(1000000, .box [.d .bool, .d (.lst .u32)])]⟩
noncomputable def R_pespalierbig_Int_TrailingZeroBits_s0 : Tm := ⟨[], [], []⟩
noncomputable def L_pespalierbig_Int_TrailingZeroBits_s0 {ρ : Type} (n : Nat) : LOrc ρ := lorcNil
omit [Tabs] [QuietD Tryd.prog] [UDef] [UTabs] in
theorem s_pespalierbig_Int_TrailingZeroBits_s0 {ρ : Type} (n : Nat) (rec : T_pespalierbig_Int_TrailingZeroBits_s0.den → Option ρ) kx kr s : dStep Tryd.prog 21 TT M_pespalierbig_Int_TrailingZeroBits (O_pespalierbig_Int_TrailingZeroBits n) (L_pespalierbig_Int_TrailingZeroBits_s0 n) dorcNil 0 (lbody 1000 C_pespalierbig_Int_TrailingZeroBits 0) T_pespalierbig_Int_TrailingZeroBits_s0 X_pespalierbig_Int_TrailingZeroBits_s0 R_pespalierbig_Int_TrailingZeroBits_s0 ⟨[], [], []⟩ rec kx kr s = pespalierbig_Int_TrailingZeroBits_s0 n rec kx kr s := by kernel_rfl
noncomputable def L_pespalierbig_Int_TrailingZeroBits {ρ : Type} (n : Nat) : LOrc ρ := lorcCons 0 (loopL 21 0 n T_pespalierbig_Int_TrailingZeroBits_s0 X_pespalierbig_Int_TrailingZeroBits_s0 R_pespalierbig_Int_TrailingZeroBits_s0 ⟨[], [], []⟩ (pespalierbig_Int_TrailingZeroBits_s0 n)) (lorcNil)
omit [Tabs] [QuietD Tryd.prog] [UDef] [UTabs] in
theorem e_pespalierbig_Int_TrailingZeroBits (n : Nat) (x) : evF Tryd.prog 21 TT M_pespalierbig_Int_TrailingZeroBits F_pespalierbig_Int_TrailingZeroBits (O_pespalierbig_Int_TrailingZeroBits n) (L_pespalierbig_Int_TrailingZeroBits n) dorcNil ⟨[], [], []⟩ [.tmp 2] C_pespalierbig_Int_TrailingZeroBits x = pespalierbig_Int_TrailingZeroBits n x := by kernel_rfl
omit [UDef] [UTabs] in
theorem ok_pespalierbig_Int_TrailingZeroBits (n : Nat) : Contract Tryd.prog 31 F_pespalierbig_Int_TrailingZeroBits (pespalierbig_Int_TrailingZeroBits n) :=
  Contract.of_ev (c := C_pespalierbig_Int_TrailingZeroBits) (N := 21) Tryd.func31 (by kernel_rfl) (by kernel_rfl) (by kernel_rfl) (by kernel_rfl) (O_pespalierbig_Int_TrailingZeroBits_ok n) dorcNil_ok (.of (l := [(0, (lbody 1000 C_pespalierbig_Int_TrailingZeroBits 0))]) (by kernel_rfl) ⟨.head (loopL_sound (O_pespalierbig_Int_TrailingZeroBits_ok n) dorcNil_ok (.of (l := []) (by kernel_rfl) trivial) (s_pespalierbig_Int_TrailingZeroBits_s0 n)), trivial⟩) (e_pespalierbig_Int_TrailingZeroBits n)

noncomputable def C_pespalierbig_Int_IsInt64 : Code := bodyOf Tryd.f16
noncomputable def M_pespalierbig_Int_IsInt64 : List (Nat × ArgM) := [(31, ⟨[0], [], [], false⟩), (30, ⟨[], [], [], true⟩)]
instance : DfOk M_pespalierbig_Int_IsInt64 := .none rfl
noncomputable def O_pespalierbig_Int_IsInt64 {ρ : Type} (n : Nat) : Orc ρ := orcCons 30 F_espalierbig_length (espalierbig_length n) (orcCons 31 F_pespalierbig_Int_TrailingZeroBits (pespalierbig_Int_TrailingZeroBits n) (orcNil))
omit [UDef] [UTabs] in
theorem O_pespalierbig_Int_IsInt64_ok {ρ : Type} (n : Nat) : (O_pespalierbig_Int_IsInt64 n : Orc ρ).ok Tryd.prog := orcCons_ok (by kernel_rfl) (ok_espalierbig_length n) (orcCons_ok (by kernel_rfl) (ok_pespalierbig_Int_TrailingZeroBits n) (orcNil_ok))
noncomputable def L_pespalierbig_Int_IsInt64 {ρ : Type} (n : Nat) : LOrc ρ := lorcNil
omit [Tabs] [QuietD Tryd.prog] [UDef] [UTabs] in
theorem e_pespalierbig_Int_IsInt64 (n : Nat) (x) : evF Tryd.prog 26 TT M_pespalierbig_Int_IsInt64 F_pespalierbig_Int_IsInt64 (O_pespalierbig_Int_IsInt64 n) (L_pespalierbig_Int_IsInt64 n) dorcNil ⟨[], [], []⟩ [.tmp 2] C_pespalierbig_Int_IsInt64 x = pespalierbig_Int_IsInt64 n x := by kernel_rfl
omit [UDef] [UTabs] in
theorem ok_pespalierbig_Int_IsInt64 (n : Nat) : Contract Tryd.prog 16 F_pespalierbig_Int_IsInt64 (pespalierbig_Int_IsInt64 n) :=
  Contract.of_ev (c := C_pespalierbig_Int_IsInt64) (N := 26) Tryd.func16 (by kernel_rfl) (by kernel_rfl) (by kernel_rfl) (by kernel_rfl) (O_pespalierbig_Int_IsInt64_ok n) dorcNil_ok (.of (l := []) (by kernel_rfl) trivial) (e_pespalierbig_Int_IsInt64 n)

noncomputable def F_pespalierbig_Int_Int64 : FnT := ⟨1, ⟨[(0, .ptr 1000000 0)], [], [(1000000, .box [.d .bool, .d (.lst .u32)])]⟩, [.v .i64], [(1000000, .box [.d .bool, .d (.lst .u32)])]⟩
noncomputable def F_pespalierbig_Int_Uint64 : FnT := ⟨1, ⟨[(0, .ptr 1000000 0)], [], [(1000000, .box [.d .bool, .d (.lst .u32)])]⟩, [.v .u64], [(1000000, .box [.d .bool, .d (.lst .u32)])]⟩
noncomputable def C_pespalierbig_Int_Uint64 : Code := bodyOf Tryd.f32
noncomputable def M_pespalierbig_Int_Uint64 : List (Nat × ArgM) := []
instance : DfOk M_pespalierbig_Int_Uint64 := .none rfl
noncomputable def O_pespalierbig_Int_Uint64 {ρ : Type} : Orc ρ := orcNil
omit [QuietD Tryd.prog] [UDef] [UTabs] in
theorem O_pespalierbig_Int_Uint64_ok {ρ : Type} : (O_pespalierbig_Int_Uint64 : Orc ρ).ok Tryd.prog := orcNil_ok
noncomputable def L_pespalierbig_Int_Uint64 {ρ : Type} : LOrc ρ := lorcNil
omit [Tabs] [QuietD Tryd.prog] [UDef] [UTabs] in
theorem e_pespalierbig_Int_Uint64 (x) : evF Tryd.prog 34 TT M_pespalierbig_Int_Uint64 F_pespalierbig_Int_Uint64 (O_pespalierbig_Int_Uint64) (L_pespalierbig_Int_Uint64) dorcNil ⟨[], [], []⟩ [.tmp 2] C_pespalierbig_Int_Uint64 x = pespalierbig_Int_Uint64 x := by kernel_rfl
omit [UDef] [UTabs] in
theorem ok_pespalierbig_Int_Uint64 : Contract Tryd.prog 32 F_pespalierbig_Int_Uint64 (pespalierbig_Int_Uint64) :=
  Contract.of_ev (c := C_pespalierbig_Int_Uint64) (N := 34) Tryd.func32 (by kernel_rfl) (by kernel_rfl) (by kernel_rfl) (by kernel_rfl) (O_pespalierbig_Int_Uint64_ok) dorcNil_ok (.of (l := []) (by kernel_rfl) trivial) (e_pespalierbig_Int_Uint64)

noncomputable def C_pespalierbig_Int_Int64 : Code := bodyOf Tryd.f17
noncomputable def M_pespalierbig_Int_Int64 : List (Nat × ArgM) := [(32, ⟨[0], [], [], false⟩)]
instance : DfOk M_pespalierbig_Int_Int64 := .none rfl
noncomputable def O_pespalierbig_Int_Int64 {ρ : Type} : Orc ρ := orcCons 32 F_pespalierbig_Int_Uint64 (pespalierbig_Int_Uint64) (orcNil)
omit [UDef] [UTabs] in
theorem O_pespalierbig_Int_Int64_ok {ρ : Type} : (O_pespalierbig_Int_Int64 : Orc ρ).ok Tryd.prog := orcCons_ok (by kernel_rfl) (ok_pespalierbig_Int_Uint64) (orcNil_ok)
noncomputable def L_pespalierbig_Int_Int64 {ρ : Type} : LOrc ρ := lorcNil
omit [Tabs] [QuietD Tryd.prog] [UDef] [UTabs] in
theorem e_pespalierbig_Int_Int64 (x) : evF Tryd.prog 14 TT M_pespalierbig_Int_Int64 F_pespalierbig_Int_Int64 (O_pespalierbig_Int_Int64) (L_pespalierbig_Int_Int64) dorcNil ⟨[], [], []⟩ [.tmp 2] C_pespalierbig_Int_Int64 x = pespalierbig_Int_Int64 x := by kernel_rfl
omit [UDef] [UTabs] in
theorem ok_pespalierbig_Int_Int64 : Contract Tryd.prog 17 F_pespalierbig_Int_Int64 (pespalierbig_Int_Int64) :=
  Contract.of_ev (c := C_pespalierbig_Int_Int64) (N := 14) Tryd.func17 (by kernel_rfl) (by kernel_rfl) (by kernel_rfl) (by kernel_rfl) (O_pespalierbig_Int_Int64_ok) dorcNil_ok (.of (l := []) (by kernel_rfl) trivial) (e_pespalierbig_Int_Int64)

noncomputable def F_pespalierbig_Int_Sub : FnT := ⟨3, ⟨[(0, .ptr 1000000 0), (1, .ptr 1000016 0), (2, .ptr 1000032 0)], [], [(1000000, .box [.d .bool, .d (.lst .u32)]), (1000016, .box [.d .bool, .d (.lst .u32)]), (1000032, .box [.d .bool, .d (.lst .u32)])]⟩, [.ref (.ptr 1000000 0)], [(1000000, .box [.d .bool, .d (.lst .u32)]), (1000016, .box [.d .bool, .d (.lst .u32)]), (1000032, .box [.d .bool, .d (.lst .u32)])]⟩
noncomputable def C_pespalierbig_Int_Sub : Code := bodyOf Tryd.f14
noncomputable def M_pespalierbig_Int_Sub : List (Nat × ArgM) := [(999999999, ⟨[1], [], [], false⟩), (27, ⟨[0], [], [], false⟩)]
instance : DfOk M_pespalierbig_Int_Sub := .none rfl
noncomputable def O_pespalierbig_Int_Sub {ρ : Type} (n : Nat) : Orc ρ := orcCons 28 F_espalierbig_sum (espalierbig_sum n) (orcCons 27 F_pespalierbig_Int_give (pespalierbig_Int_give) (orcNil))
omit [UDef] [UTabs] in
theorem O_pespalierbig_Int_Sub_ok {ρ : Type} (n : Nat) : (O_pespalierbig_Int_Sub n : Orc ρ).ok Tryd.prog := orcCons_ok (by kernel_rfl) (ok_espalierbig_sum n) (orcCons_ok (by kernel_rfl) (ok_pespalierbig_Int_give) (orcNil_ok))
noncomputable def L_pespalierbig_Int_Sub {ρ : Type} (n : Nat) : LOrc ρ := lorcNil
omit [Tabs] [QuietD Tryd.prog] [UDef] [UTabs] in
theorem e_pespalierbig_Int_Sub (n : Nat) (x) : evF Tryd.prog 29 TT M_pespalierbig_Int_Sub F_pespalierbig_Int_Sub (O_pespalierbig_Int_Sub n) (L_pespalierbig_Int_Sub n) (evDraw Tryd.prog 29 TT M_pespalierbig_Int_Sub (O_pespalierbig_Int_Sub n)) ⟨[], [], []⟩ [.tmp 6] C_pespalierbig_Int_Sub x = pespalierbig_Int_Sub n x := by kernel_rfl
omit [UDef] [UTabs] in
theorem ok_pespalierbig_Int_Sub (n : Nat) : Contract Tryd.prog 14 F_pespalierbig_Int_Sub (pespalierbig_Int_Sub n) :=
  Contract.of_ev (c := C_pespalierbig_Int_Sub) (N := 29) Tryd.func14 (by kernel_rfl) (by kernel_rfl) (by kernel_rfl) (by kernel_rfl) (O_pespalierbig_Int_Sub_ok n) (evDraw_ok (O_pespalierbig_Int_Sub_ok n) (by kernel_rfl)) (.of (l := []) (by kernel_rfl) trivial) (e_pespalierbig_Int_Sub n)

noncomputable def F_pespalierbig_Int_Mul : FnT := ⟨3, ⟨[(0, .ptr 1000000 0), (1, .ptr 1000016 0), (2, .ptr 1000032 0)], [], [(1000000, .box [.d .bool, .d (.lst .u32)]), (1000016, .box [.d .bool, .d (.lst .u32)]), (1000032, .box [.d .bool, .d (.lst .u32)])]⟩, [.ref (.ptr 1000000 0)], [(1000000, .box [.d .bool, .d (.lst .u32)]), (1000016, .box [.d .bool, .d (.lst .u32)]), (1000032, .box [.d .bool, .d (.lst .u32)])]⟩
noncomputable def F_espalierbig_mul : FnT := ⟨2, ⟨[], [(0, (.lst .u32)), (1, (.lst .u32))], []⟩, [.v (.lst .u32)], []⟩
noncomputable def C_espalierbig_mul : Code := bodyOf Tryd.f29
noncomputable def M_espalierbig_mul : List (Nat × ArgM) := [(999999999, ⟨[1], [], [], false⟩)]
instance : DfOk M_espalierbig_mul := .none rfl
noncomputable def O_espalierbig_mul {ρ : Type} (n : Nat) : Orc ρ := orcCons 44 F_espalierbig_trim (espalierbig_trim n) (orcNil)
omit [UDef] [UTabs] in
theorem O_espalierbig_mul_ok {ρ : Type} (n : Nat) : (O_espalierbig_mul n : Orc ρ).ok Tryd.prog := orcCons_ok (by kernel_rfl) (ok_espalierbig_trim n) (orcNil_ok)
noncomputable def T_espalierbig_mul_s2 : Tm := ⟨[(5, .own 22)], [(0, (.lst .u32)), (1, (.lst .u32)), (6, .i64), (7, .u64), (8, .i64)], [(22, .arr 79 .u32)]⟩
noncomputable def X_espalierbig_mul_s2 : Tm := ⟨[(5, .own 22)], [(0, (.lst .u32)), (1, (.lst .u32)), (6, .i64), (7, .u64)], [(22, .arr 79 .u32)]⟩
noncomputable def R_espalierbig_mul_s2 : Tm := ⟨[], [], []⟩
noncomputable def L_espalierbig_mul_s2 {ρ : Type} (n : Nat) : LOrc ρ := lorcNil
omit [Tabs] [QuietD Tryd.prog] [UDef] [UTabs] in
theorem s_espalierbig_mul_s2 {ρ : Type} (n : Nat) (rec : T_espalierbig_mul_s2.den → Option ρ) kx kr s : dStep Tryd.prog 75 TT M_espalierbig_mul (O_espalierbig_mul n) (L_espalierbig_mul_s2 n) (evDraw Tryd.prog 75 TT M_espalierbig_mul (O_espalierbig_mul n)) 2 (lbody 0 (lbody 1000 C_espalierbig_mul 0) 0) T_espalierbig_mul_s2 X_espalierbig_mul_s2 R_espalierbig_mul_s2 ⟨[], [], []⟩ rec kx kr s = espalierbig_mul_s2 n rec kx kr s := by kernel_rfl
noncomputable def T_espalierbig_mul_s0 : Tm := ⟨[(5, .own 22)], [(0, (.lst .u32)), (1, (.lst .u32)), (6, .i64)], [(22, .arr 79 .u32)]⟩
noncomputable def X_espalierbig_mul_s0 : Tm := ⟨[(5, .own 22)], [], [(22, .arr 79 .u32)]⟩
noncomputable def R_espalierbig_mul_s0 : Tm := ⟨[], [], []⟩
noncomputable def L_espalierbig_mul_s0 {ρ : Type} (n : Nat) : LOrc ρ := lorcCons 2 (loopL 75 2 n T_espalierbig_mul_s2 X_espalierbig_mul_s2 R_espalierbig_mul_s2 ⟨[], [], []⟩ (espalierbig_mul_s2 n)) (lorcNil)
omit [Tabs] [QuietD Tryd.prog] [UDef] [UTabs] in
theorem s_espalierbig_mul_s0 {ρ : Type} (n : Nat) (rec : T_espalierbig_mul_s0.den → Option ρ) kx kr s : dStep Tryd.prog 75 TT M_espalierbig_mul (O_espalierbig_mul n) (L_espalierbig_mul_s0 n) (evDraw Tryd.prog 75 TT M_espalierbig_mul (O_espalierbig_mul n)) 0 (lbody 1000 C_espalierbig_mul 0) T_espalierbig_mul_s0 X_espalierbig_mul_s0 R_espalierbig_mul_s0 ⟨[], [], []⟩ rec kx kr s = espalierbig_mul_s0 n rec kx kr s := by kernel_rfl
noncomputable def L_espalierbig_mul {ρ : Type} (n : Nat) : LOrc ρ := lorcCons 0 (loopL 75 0 n T_espalierbig_mul_s0 X_espalierbig_mul_s0 R_espalierbig_mul_s0 ⟨[], [], []⟩ (espalierbig_mul_s0 n)) (lorcNil)
omit [Tabs] [QuietD Tryd.prog] [UDef] [UTabs] in
theorem e_espalierbig_mul (n : Nat) (x) : evF Tryd.prog 75 TT M_espalierbig_mul F_espalierbig_mul (O_espalierbig_mul n) (L_espalierbig_mul n) (evDraw Tryd.prog 75 TT M_espalierbig_mul (O_espalierbig_mul n)) ⟨[], [], []⟩ [.tmp 4] C_espalierbig_mul x = espalierbig_mul n x := by kernel_rfl
omit [UDef] [UTabs] in
theorem ok_espalierbig_mul (n : Nat) : Contract Tryd.prog 29 F_espalierbig_mul (espalierbig_mul n) :=
  Contract.of_ev (c := C_espalierbig_mul) (N := 75) Tryd.func29 (by kernel_rfl) (by kernel_rfl) (by kernel_rfl) (by kernel_rfl) (O_espalierbig_mul_ok n) (evDraw_ok (O_espalierbig_mul_ok n) (by kernel_rfl)) (.of (l := [(0, (lbody 1000 C_espalierbig_mul 0))]) (by kernel_rfl) ⟨.head (loopL_sound (O_espalierbig_mul_ok n) (evDraw_ok (O_espalierbig_mul_ok n) (by kernel_rfl)) (.of (l := [(2, (lbody 0 (lbody 1000 C_espalierbig_mul 0) 0))]) (by kernel_rfl) ⟨.head (loopL_sound (O_espalierbig_mul_ok n) (evDraw_ok (O_espalierbig_mul_ok n) (by kernel_rfl)) (.of (l := []) (by kernel_rfl) trivial) (s_espalierbig_mul_s2 n)), trivial⟩) (s_espalierbig_mul_s0 n)), trivial⟩) (e_espalierbig_mul n)

noncomputable def C_pespalierbig_Int_Mul : Code := bodyOf Tryd.f15
noncomputable def M_pespalierbig_Int_Mul : List (Nat × ArgM) := [(999999999, ⟨[1], [], [], false⟩), (27, ⟨[0], [], [], false⟩)]
instance : DfOk M_pespalierbig_Int_Mul := .none rfl
noncomputable def O_pespalierbig_Int_Mul {ρ : Type} (n : Nat) : Orc ρ := orcCons 29 F_espalierbig_mul (espalierbig_mul n) (orcCons 27 F_pespalierbig_Int_give (pespalierbig_Int_give) (orcNil))
omit [UDef] [UTabs] in
theorem O_pespalierbig_Int_Mul_ok {ρ : Type} (n : Nat) : (O_pespalierbig_Int_Mul n : Orc ρ).ok Tryd.prog := orcCons_ok (by kernel_rfl) (ok_espalierbig_mul n) (orcCons_ok (by kernel_rfl) (ok_pespalierbig_Int_give) (orcNil_ok))
noncomputable def L_pespalierbig_Int_Mul {ρ : Type} (n : Nat) : LOrc ρ := lorcNil
omit [Tabs] [QuietD Tryd.prog] [UDef] [UTabs] in
theorem e_pespalierbig_Int_Mul (n : Nat) (x) : evF Tryd.prog 27 TT M_pespalierbig_Int_Mul F_pespalierbig_Int_Mul (O_pespalierbig_Int_Mul n) (L_pespalierbig_Int_Mul n) (evDraw Tryd.prog 27 TT M_pespalierbig_Int_Mul (O_pespalierbig_Int_Mul n)) ⟨[], [], []⟩ [.tmp 6] C_pespalierbig_Int_Mul x = pespalierbig_Int_Mul n x := by kernel_rfl
omit [UDef] [UTabs] in
theorem ok_pespalierbig_Int_Mul (n : Nat) : Contract Tryd.prog 15 F_pespalierbig_Int_Mul (pespalierbig_Int_Mul n) :=
  Contract.of_ev (c := C_pespalierbig_Int_Mul) (N := 27) Tryd.func15 (by kernel_rfl) (by kernel_rfl) (by kernel_rfl) (by kernel_rfl) (O_pespalierbig_Int_Mul_ok n) (evDraw_ok (O_pespalierbig_Int_Mul_ok n) (by kernel_rfl)) (.of (l := []) (by kernel_rfl) trivial) (e_pespalierbig_Int_Mul n)

noncomputable def C_espalierref_ReckonOf : Code := bodyOf Tryd.f5
noncomputable def M_espalierref_ReckonOf : List (Nat × ArgM) := [(13, ⟨[0, 1, 2], [], [], false⟩), (14, ⟨[0, 1, 2], [], [], false⟩), (15, ⟨[0, 1, 2], [], [], false⟩), (16, ⟨[0], [], [], false⟩), (17, ⟨[0], [], [], false⟩), (12, ⟨[], [], [3], false⟩)]
instance : DfOk M_espalierref_ReckonOf := .none rfl
noncomputable def O_espalierref_ReckonOf {ρ : Type} (n : Nat) : Orc ρ := orcCons 12 F_espalierbig_NewInt (espalierbig_NewInt n) (orcCons 13 F_pespalierbig_Int_Add (pespalierbig_Int_Add n) (orcCons 16 F_pespalierbig_Int_IsInt64 (pespalierbig_Int_IsInt64 n) (orcCons 17 F_pespalierbig_Int_Int64 (pespalierbig_Int_Int64) (orcCons 14 F_pespalierbig_Int_Sub (pespalierbig_Int_Sub n) (orcCons 15 F_pespalierbig_Int_Mul (pespalierbig_Int_Mul n) (orcNil))))))
omit [UDef] [UTabs] in
theorem O_espalierref_ReckonOf_ok {ρ : Type} (n : Nat) : (O_espalierref_ReckonOf n : Orc ρ).ok Tryd.prog := orcCons_ok (by kernel_rfl) (ok_espalierbig_NewInt n) (orcCons_ok (by kernel_rfl) (ok_pespalierbig_Int_Add n) (orcCons_ok (by kernel_rfl) (ok_pespalierbig_Int_IsInt64 n) (orcCons_ok (by kernel_rfl) (ok_pespalierbig_Int_Int64) (orcCons_ok (by kernel_rfl) (ok_pespalierbig_Int_Sub n) (orcCons_ok (by kernel_rfl) (ok_pespalierbig_Int_Mul n) (orcNil_ok))))))
noncomputable def L_espalierref_ReckonOf {ρ : Type} (n : Nat) : LOrc ρ := lorcNil
omit [Tabs] [QuietD Tryd.prog] [UDef] [UTabs] in
theorem e_espalierref_ReckonOf (n : Nat) (x) : evF Tryd.prog 124 TT M_espalierref_ReckonOf F_espalierref_ReckonOf (O_espalierref_ReckonOf n) (L_espalierref_ReckonOf n) (evDraw Tryd.prog 124 TT M_espalierref_ReckonOf (O_espalierref_ReckonOf n)) ⟨[], [], []⟩ [.cell 6 24, .tmp 7] C_espalierref_ReckonOf x = espalierref_ReckonOf n x := by kernel_rfl
omit [UDef] [UTabs] in
theorem ok_espalierref_ReckonOf (n : Nat) : Contract Tryd.prog 5 F_espalierref_ReckonOf (espalierref_ReckonOf n) :=
  Contract.of_ev (c := C_espalierref_ReckonOf) (N := 124) Tryd.func5 (by kernel_rfl) (by kernel_rfl) (by kernel_rfl) (by kernel_rfl) (O_espalierref_ReckonOf_ok n) (evDraw_ok (O_espalierref_ReckonOf_ok n) (by kernel_rfl)) (.of (l := []) (by kernel_rfl) trivial) (e_espalierref_ReckonOf n)

noncomputable def F_espalierlaw_valued : FnT := ⟨0, ⟨[], [], []⟩, [.v .bool], []⟩
noncomputable def F_espalierlaw_num : FnT := ⟨1, ⟨[], [(0, .i64)], []⟩, [.v .val], []⟩
noncomputable def C_espalierlaw_num : Code := bodyOf Tryd.f20
noncomputable def M_espalierlaw_num : List (Nat × ArgM) := []
instance : DfOk M_espalierlaw_num := .none rfl
noncomputable def O_espalierlaw_num {ρ : Type} : Orc ρ := orcNil
omit [QuietD Tryd.prog] [UDef] [UTabs] in
theorem O_espalierlaw_num_ok {ρ : Type} : (O_espalierlaw_num : Orc ρ).ok Tryd.prog := orcNil_ok
noncomputable def L_espalierlaw_num {ρ : Type} : LOrc ρ := lorcNil
omit [Tabs] [QuietD Tryd.prog] [UDef] [UTabs] in
theorem e_espalierlaw_num (x) : evF Tryd.prog 5 TT M_espalierlaw_num F_espalierlaw_num (O_espalierlaw_num) (L_espalierlaw_num) dorcNil ⟨[], [], []⟩ [.cell 2 24] C_espalierlaw_num x = espalierlaw_num x := by kernel_rfl
omit [UDef] [UTabs] in
theorem ok_espalierlaw_num : Contract Tryd.prog 20 F_espalierlaw_num (espalierlaw_num) :=
  Contract.of_ev (c := C_espalierlaw_num) (N := 5) Tryd.func20 (by kernel_rfl) (by kernel_rfl) (by kernel_rfl) (by kernel_rfl) (O_espalierlaw_num_ok) dorcNil_ok (.of (l := []) (by kernel_rfl) trivial) (e_espalierlaw_num)

noncomputable def F_espalierlaw_str : FnT := ⟨1, ⟨[], [(0, .str)], []⟩, [.v .val], []⟩
noncomputable def C_espalierlaw_str : Code := bodyOf Tryd.f21
noncomputable def M_espalierlaw_str : List (Nat × ArgM) := []
instance : DfOk M_espalierlaw_str := .none rfl
noncomputable def O_espalierlaw_str {ρ : Type} : Orc ρ := orcNil
omit [QuietD Tryd.prog] [UDef] [UTabs] in
theorem O_espalierlaw_str_ok {ρ : Type} : (O_espalierlaw_str : Orc ρ).ok Tryd.prog := orcNil_ok
noncomputable def L_espalierlaw_str {ρ : Type} : LOrc ρ := lorcNil
omit [Tabs] [QuietD Tryd.prog] [UDef] [UTabs] in
theorem e_espalierlaw_str (x) : evF Tryd.prog 5 TT M_espalierlaw_str F_espalierlaw_str (O_espalierlaw_str) (L_espalierlaw_str) dorcNil ⟨[], [], []⟩ [.cell 2 24] C_espalierlaw_str x = espalierlaw_str x := by kernel_rfl
omit [UDef] [UTabs] in
theorem ok_espalierlaw_str : Contract Tryd.prog 21 F_espalierlaw_str (espalierlaw_str) :=
  Contract.of_ev (c := C_espalierlaw_str) (N := 5) Tryd.func21 (by kernel_rfl) (by kernel_rfl) (by kernel_rfl) (by kernel_rfl) (O_espalierlaw_str_ok) dorcNil_ok (.of (l := []) (by kernel_rfl) trivial) (e_espalierlaw_str)

noncomputable def F_espalierlaw_list : FnT := ⟨1, ⟨[], [(0, (.lst .val))], []⟩, [.v .val], []⟩
noncomputable def C_espalierlaw_list : Code := bodyOf Tryd.f19
noncomputable def M_espalierlaw_list : List (Nat × ArgM) := []
instance : DfOk M_espalierlaw_list := .none rfl
noncomputable def O_espalierlaw_list {ρ : Type} : Orc ρ := orcNil
omit [QuietD Tryd.prog] [UDef] [UTabs] in
theorem O_espalierlaw_list_ok {ρ : Type} : (O_espalierlaw_list : Orc ρ).ok Tryd.prog := orcNil_ok
noncomputable def L_espalierlaw_list {ρ : Type} : LOrc ρ := lorcNil
omit [Tabs] [QuietD Tryd.prog] [UDef] [UTabs] in
theorem e_espalierlaw_list (x) : evF Tryd.prog 5 TT M_espalierlaw_list F_espalierlaw_list (O_espalierlaw_list) (L_espalierlaw_list) dorcNil ⟨[], [], []⟩ [.cell 2 24] C_espalierlaw_list x = espalierlaw_list x := by kernel_rfl
omit [UDef] [UTabs] in
theorem ok_espalierlaw_list : Contract Tryd.prog 19 F_espalierlaw_list (espalierlaw_list) :=
  Contract.of_ev (c := C_espalierlaw_list) (N := 5) Tryd.func19 (by kernel_rfl) (by kernel_rfl) (by kernel_rfl) (by kernel_rfl) (O_espalierlaw_list_ok) dorcNil_ok (.of (l := []) (by kernel_rfl) trivial) (e_espalierlaw_list)

noncomputable def F_value_Print : FnT := ⟨1, ⟨[], [(0, .val)], []⟩, [.v .str, .v .i64], []⟩
noncomputable def F_value_Check : FnT := ⟨1, ⟨[], [(0, .val)], []⟩, [.v .i64], []⟩
noncomputable def F_value_check : FnT := ⟨2, ⟨[], [(0, .val), (1, .i64)], []⟩, [.v .i64], []⟩
noncomputable def C_value_check : Code := bodyOf Tryd.f46
noncomputable def M_value_check : List (Nat × ArgM) := [(57, ⟨[], [], [], true⟩), (46, ⟨[], [], [], true⟩)]
instance : DfOk M_value_check := .none rfl
noncomputable def O_value_check {ρ : Type} (self_value_check : Ev.Val × Int × Unit → Option (Int × Unit)) (n : Nat) : Orc ρ := orcCons 57 F_valid (validN) (orcCons 46 F_value_check (self_value_check) (orcNil))
omit [QuietD Tryd.prog] [UDef] in
theorem O_value_check_ok {ρ : Type} (self_value_check : Ev.Val × Int × Unit → Option (Int × Unit)) (h_value_check : Contract Tryd.prog 46 F_value_check self_value_check) (n : Nat) : (O_value_check self_value_check n : Orc ρ).ok Tryd.prog := orcCons_ok (by kernel_rfl) (validN_ok) (orcCons_ok (by kernel_rfl) (h_value_check) (orcNil_ok))
noncomputable def T_value_check_s1 : Tm := ⟨[(2, .ptr 2 0)], [(1, .i64), (90, (.lst .val)), (91, .i64), (92, .i64)], [(2, .box [.d .val])]⟩
noncomputable def X_value_check_s1 : Tm := ⟨[(2, .ptr 2 0)], [], [(2, .box [.d .val])]⟩
noncomputable def R_value_check_s1 : Tm := ⟨[], [(4, .i64)], []⟩
noncomputable def L_value_check_s1 {ρ : Type} (self_value_check : Ev.Val × Int × Unit → Option (Int × Unit)) (n : Nat) : LOrc ρ := lorcNil
omit [Tabs] [QuietD Tryd.prog] [UDef] [UTabs] in
theorem s_value_check_s1 {ρ : Type} (self_value_check : Ev.Val × Int × Unit → Option (Int × Unit)) (n : Nat) (rec : T_value_check_s1.den → Option ρ) kx kr s : dStep Tryd.prog 114 TT M_value_check (O_value_check self_value_check n) (L_value_check_s1 self_value_check n) dorcNil 1 (lbody 1000 C_value_check 0) T_value_check_s1 X_value_check_s1 R_value_check_s1 ⟨[], [], []⟩ rec kx kr s = value_check_s1 self_value_check n rec kx kr s := by kernel_rfl
noncomputable def L_value_check {ρ : Type} (self_value_check : Ev.Val × Int × Unit → Option (Int × Unit)) (n : Nat) : LOrc ρ := lorcCons 1 (loopL 114 1 n T_value_check_s1 X_value_check_s1 R_value_check_s1 ⟨[], [], []⟩ (value_check_s1 self_value_check n)) (lorcNil)
omit [Tabs] [QuietD Tryd.prog] [UDef] [UTabs] in
theorem e_value_check (self_value_check : Ev.Val × Int × Unit → Option (Int × Unit)) (n : Nat) (x) : evF Tryd.prog 114 TT M_value_check F_value_check (O_value_check self_value_check n) (L_value_check self_value_check n) dorcNil ⟨[], [], []⟩ [.tmp 4] C_value_check x = value_check_b self_value_check n x := by kernel_rfl
omit [UDef] in
theorem okb_value_check (self_value_check : Ev.Val × Int × Unit → Option (Int × Unit)) (h_value_check : Contract Tryd.prog 46 F_value_check self_value_check) (n : Nat) : Contract Tryd.prog 46 F_value_check (value_check_b self_value_check n) :=
  Contract.of_ev (c := C_value_check) (N := 114) Tryd.func46 (by kernel_rfl) (by kernel_rfl) (by kernel_rfl) (by kernel_rfl) (O_value_check_ok self_value_check h_value_check n) dorcNil_ok (.of (l := [(1, (lbody 1000 C_value_check 0))]) (by kernel_rfl) ⟨.head (loopL_sound (O_value_check_ok self_value_check h_value_check n) dorcNil_ok (.of (l := []) (by kernel_rfl) trivial) (s_value_check_s1 self_value_check n)), trivial⟩) (e_value_check self_value_check n)
omit [UDef] in
theorem ok_value_check : ∀ n, Contract Tryd.prog 46 F_value_check (value_check n)
  | 0 => fun _ _ h => by cases h
  | n + 1 => okb_value_check _ (ok_value_check n) n

noncomputable def C_value_Check : Code := bodyOf Tryd.f33
noncomputable def M_value_Check : List (Nat × ArgM) := [(46, ⟨[], [], [], true⟩)]
instance : DfOk M_value_Check := .none rfl
noncomputable def O_value_Check {ρ : Type} (n : Nat) : Orc ρ := orcCons 46 F_value_check (value_check n) (orcNil)
omit [UDef] in
theorem O_value_Check_ok {ρ : Type} (n : Nat) : (O_value_Check n : Orc ρ).ok Tryd.prog := orcCons_ok (by kernel_rfl) (ok_value_check n) (orcNil_ok)
noncomputable def L_value_Check {ρ : Type} (n : Nat) : LOrc ρ := lorcNil
omit [Tabs] [QuietD Tryd.prog] [UDef] [UTabs] in
theorem e_value_Check (n : Nat) (x) : evF Tryd.prog 5 TT M_value_Check F_value_Check (O_value_Check n) (L_value_Check n) dorcNil ⟨[], [], []⟩ [.tmp 2] C_value_Check x = value_Check n x := by kernel_rfl
omit [UDef] in
theorem ok_value_Check (n : Nat) : Contract Tryd.prog 33 F_value_Check (value_Check n) :=
  Contract.of_ev (c := C_value_Check) (N := 5) Tryd.func33 (by kernel_rfl) (by kernel_rfl) (by kernel_rfl) (by kernel_rfl) (O_value_Check_ok n) dorcNil_ok (.of (l := []) (by kernel_rfl) trivial) (e_value_Check n)

noncomputable def F_value_tell : FnT := ⟨2, ⟨[(0, .ptr 1000000 0)], [(1, .val)], [(1000000, .box [.ref (.pn 1000000), .ref (.own 1000001)] (some 66)), (1000001, .arr 5 .u8)]⟩, [], [(1000000, .box [.ref (.pn 1000000), .ref (.own 1000001)] (some 66)), (1000001, .arr 5 .u8)]⟩
noncomputable def F_pstrings_Builder_WriteString : FnT := ⟨2, ⟨[(0, .ptr 1000000 0)], [(1, .str)], [(1000000, .box [.ref (.pn 1000000), .ref (.own 1000001)] (some 66)), (1000001, .arr 5 .u8)]⟩, [.v .i64, .ref (.nili)], [(1000000, .box [.ref (.pn 1000000), .ref (.own 1000001)] (some 66)), (1000001, .arr 5 .u8)]⟩
noncomputable def C_pstrings_Builder_WriteString : Code := bodyOf Tryd.f47
noncomputable def M_pstrings_Builder_WriteString : List (Nat × ArgM) := [(58, ⟨[0], [], [], false⟩)]
instance : DfOk M_pstrings_Builder_WriteString := .none rfl
noncomputable def O_pstrings_Builder_WriteString {ρ : Type} : Orc ρ := orcCons 58 F_cc (copyCheckN) (orcNil)
omit [QuietD Tryd.prog] [UDef] [UTabs] in
theorem O_pstrings_Builder_WriteString_ok {ρ : Type} : (O_pstrings_Builder_WriteString : Orc ρ).ok Tryd.prog := orcCons_ok (by kernel_rfl) (copyCheckN_ok) (orcNil_ok)
noncomputable def L_pstrings_Builder_WriteString {ρ : Type} : LOrc ρ := lorcNil
omit [Tabs] [QuietD Tryd.prog] [UDef] [UTabs] in
theorem e_pstrings_Builder_WriteString (x) : evF Tryd.prog 19 TT M_pstrings_Builder_WriteString F_pstrings_Builder_WriteString (O_pstrings_Builder_WriteString) (L_pstrings_Builder_WriteString) dorcNil ⟨[], [], []⟩ [.tmp 4, .tmp 5] C_pstrings_Builder_WriteString x = pstrings_Builder_WriteString x := by kernel_rfl
omit [UDef] [UTabs] in
theorem ok_pstrings_Builder_WriteString : Contract Tryd.prog 47 F_pstrings_Builder_WriteString (pstrings_Builder_WriteString) :=
  Contract.of_ev (c := C_pstrings_Builder_WriteString) (N := 19) Tryd.func47 (by kernel_rfl) (by kernel_rfl) (by kernel_rfl) (by kernel_rfl) (O_pstrings_Builder_WriteString_ok) dorcNil_ok (.of (l := []) (by kernel_rfl) trivial) (e_pstrings_Builder_WriteString)

noncomputable def F_strconv_FormatBool : FnT := ⟨1, ⟨[], [(0, .bool)], []⟩, [.v .str], []⟩
noncomputable def F_internal_strconv_FormatBool : FnT := ⟨1, ⟨[], [(0, .bool)], []⟩, [.v .str], []⟩
noncomputable def C_internal_strconv_FormatBool : Code := bodyOf Tryd.f59
noncomputable def M_internal_strconv_FormatBool : List (Nat × ArgM) := []
instance : DfOk M_internal_strconv_FormatBool := .none rfl
noncomputable def O_internal_strconv_FormatBool {ρ : Type} : Orc ρ := orcNil
omit [QuietD Tryd.prog] [UDef] [UTabs] in
theorem O_internal_strconv_FormatBool_ok {ρ : Type} : (O_internal_strconv_FormatBool : Orc ρ).ok Tryd.prog := orcNil_ok
noncomputable def L_internal_strconv_FormatBool {ρ : Type} : LOrc ρ := lorcNil
omit [Tabs] [QuietD Tryd.prog] [UDef] [UTabs] in
theorem e_internal_strconv_FormatBool (x) : evF Tryd.prog 4 TT M_internal_strconv_FormatBool F_internal_strconv_FormatBool (O_internal_strconv_FormatBool) (L_internal_strconv_FormatBool) dorcNil ⟨[], [], []⟩ [.tmp 2] C_internal_strconv_FormatBool x = internal_strconv_FormatBool x := by kernel_rfl
omit [UDef] [UTabs] in
theorem ok_internal_strconv_FormatBool : Contract Tryd.prog 59 F_internal_strconv_FormatBool (internal_strconv_FormatBool) :=
  Contract.of_ev (c := C_internal_strconv_FormatBool) (N := 4) Tryd.func59 (by kernel_rfl) (by kernel_rfl) (by kernel_rfl) (by kernel_rfl) (O_internal_strconv_FormatBool_ok) dorcNil_ok (.of (l := []) (by kernel_rfl) trivial) (e_internal_strconv_FormatBool)

noncomputable def C_strconv_FormatBool : Code := bodyOf Tryd.f48
noncomputable def M_strconv_FormatBool : List (Nat × ArgM) := [(59, ⟨[], [], [], true⟩)]
instance : DfOk M_strconv_FormatBool := .none rfl
noncomputable def O_strconv_FormatBool {ρ : Type} : Orc ρ := orcCons 59 F_internal_strconv_FormatBool (internal_strconv_FormatBool) (orcNil)
omit [UDef] [UTabs] in
theorem O_strconv_FormatBool_ok {ρ : Type} : (O_strconv_FormatBool : Orc ρ).ok Tryd.prog := orcCons_ok (by kernel_rfl) (ok_internal_strconv_FormatBool) (orcNil_ok)
noncomputable def L_strconv_FormatBool {ρ : Type} : LOrc ρ := lorcNil
omit [Tabs] [QuietD Tryd.prog] [UDef] [UTabs] in
theorem e_strconv_FormatBool (x) : evF Tryd.prog 5 TT M_strconv_FormatBool F_strconv_FormatBool (O_strconv_FormatBool) (L_strconv_FormatBool) dorcNil ⟨[], [], []⟩ [.tmp 2] C_strconv_FormatBool x = strconv_FormatBool x := by kernel_rfl
omit [UDef] [UTabs] in
theorem ok_strconv_FormatBool : Contract Tryd.prog 48 F_strconv_FormatBool (strconv_FormatBool) :=
  Contract.of_ev (c := C_strconv_FormatBool) (N := 5) Tryd.func48 (by kernel_rfl) (by kernel_rfl) (by kernel_rfl) (by kernel_rfl) (O_strconv_FormatBool_ok) dorcNil_ok (.of (l := []) (by kernel_rfl) trivial) (e_strconv_FormatBool)

noncomputable def F_pstrings_Builder_WriteByte : FnT := ⟨2, ⟨[(0, .ptr 1000000 0)], [(1, .u8)], [(1000000, .box [.ref (.pn 1000000), .ref (.own 1000001)] (some 66)), (1000001, .arr 5 .u8)]⟩, [.ref (.nili)], [(1000000, .box [.ref (.pn 1000000), .ref (.own 1000001)] (some 66)), (1000001, .arr 5 .u8)]⟩
noncomputable def C_pstrings_Builder_WriteByte : Code := bodyOf Tryd.f50
noncomputable def M_pstrings_Builder_WriteByte : List (Nat × ArgM) := [(58, ⟨[0], [], [], false⟩)]
instance : DfOk M_pstrings_Builder_WriteByte := .none rfl
noncomputable def O_pstrings_Builder_WriteByte {ρ : Type} : Orc ρ := orcCons 58 F_cc (copyCheckN) (orcNil)
omit [QuietD Tryd.prog] [UDef] [UTabs] in
theorem O_pstrings_Builder_WriteByte_ok {ρ : Type} : (O_pstrings_Builder_WriteByte : Orc ρ).ok Tryd.prog := orcCons_ok (by kernel_rfl) (copyCheckN_ok) (orcNil_ok)
noncomputable def L_pstrings_Builder_WriteByte {ρ : Type} : LOrc ρ := lorcNil
omit [Tabs] [QuietD Tryd.prog] [UDef] [UTabs] in
theorem e_pstrings_Builder_WriteByte (x) : evF Tryd.prog 17 TT M_pstrings_Builder_WriteByte F_pstrings_Builder_WriteByte (O_pstrings_Builder_WriteByte) (L_pstrings_Builder_WriteByte) dorcNil ⟨[], [], []⟩ [.tmp 4] C_pstrings_Builder_WriteByte x = pstrings_Builder_WriteByte x := by kernel_rfl
omit [UDef] [UTabs] in
theorem ok_pstrings_Builder_WriteByte : Contract Tryd.prog 50 F_pstrings_Builder_WriteByte (pstrings_Builder_WriteByte) :=
  Contract.of_ev (c := C_pstrings_Builder_WriteByte) (N := 17) Tryd.func50 (by kernel_rfl) (by kernel_rfl) (by kernel_rfl) (by kernel_rfl) (O_pstrings_Builder_WriteByte_ok) dorcNil_ok (.of (l := []) (by kernel_rfl) trivial) (e_pstrings_Builder_WriteByte)

noncomputable def F_pstrings_Builder_WriteRune : FnT := ⟨2, ⟨[(0, .ptr 1000000 0)], [(1, .i32)], [(1000000, .box [.ref (.pn 1000000), .ref (.own 1000001)] (some 66)), (1000001, .arr 5 .u8)]⟩, [.v .i64, .ref (.nili)], [(1000000, .box [.ref (.pn 1000000), .ref (.own 1000001)] (some 66)), (1000001, .arr 5 .u8)]⟩
noncomputable def F_unicode_utf8_AppendRune : FnT := ⟨2, ⟨[(0, .own 1000000)], [(1, .i32)], [(1000000, .arr 5 .u8)]⟩, [.ref (.own 1000000)], [(1000000, .arr 5 .u8)]⟩
noncomputable def F_unicode_utf8_appendRuneNonASCII : FnT := ⟨2, ⟨[(0, .own 1000000)], [(1, .i32)], [(1000000, .arr 5 .u8)]⟩, [.ref (.own 1000000)], [(1000000, .arr 5 .u8)]⟩
noncomputable def C_unicode_utf8_appendRuneNonASCII : Code := bodyOf Tryd.f69
noncomputable def M_unicode_utf8_appendRuneNonASCII : List (Nat × ArgM) := []
instance : DfOk M_unicode_utf8_appendRuneNonASCII := .none rfl
noncomputable def O_unicode_utf8_appendRuneNonASCII {ρ : Type} : Orc ρ := orcNil
omit [QuietD Tryd.prog] [UDef] [UTabs] in
theorem O_unicode_utf8_appendRuneNonASCII_ok {ρ : Type} : (O_unicode_utf8_appendRuneNonASCII : Orc ρ).ok Tryd.prog := orcNil_ok
noncomputable def L_unicode_utf8_appendRuneNonASCII {ρ : Type} : LOrc ρ := lorcNil
omit [Tabs] [QuietD Tryd.prog] [UDef] [UTabs] in
theorem e_unicode_utf8_appendRuneNonASCII (x) : evF Tryd.prog 78 TT M_unicode_utf8_appendRuneNonASCII F_unicode_utf8_appendRuneNonASCII (O_unicode_utf8_appendRuneNonASCII) (L_unicode_utf8_appendRuneNonASCII) dorcNil ⟨[], [], []⟩ [.tmp 4] C_unicode_utf8_appendRuneNonASCII x = unicode_utf8_appendRuneNonASCII x := by kernel_rfl
omit [UDef] [UTabs] in
theorem ok_unicode_utf8_appendRuneNonASCII : Contract Tryd.prog 69 F_unicode_utf8_appendRuneNonASCII (unicode_utf8_appendRuneNonASCII) :=
  Contract.of_ev (c := C_unicode_utf8_appendRuneNonASCII) (N := 78) Tryd.func69 (by kernel_rfl) (by kernel_rfl) (by kernel_rfl) (by kernel_rfl) (O_unicode_utf8_appendRuneNonASCII_ok) dorcNil_ok (.of (l := []) (by kernel_rfl) trivial) (e_unicode_utf8_appendRuneNonASCII)

noncomputable def C_unicode_utf8_AppendRune : Code := bodyOf Tryd.f61
noncomputable def M_unicode_utf8_AppendRune : List (Nat × ArgM) := [(69, ⟨[0], [⟨0, 1000000, 5, 1⟩], [], false⟩)]
instance : DfOk M_unicode_utf8_AppendRune := .none rfl
noncomputable def O_unicode_utf8_AppendRune {ρ : Type} : Orc ρ := orcCons 69 F_unicode_utf8_appendRuneNonASCII (unicode_utf8_appendRuneNonASCII) (orcNil)
omit [UDef] [UTabs] in
theorem O_unicode_utf8_AppendRune_ok {ρ : Type} : (O_unicode_utf8_AppendRune : Orc ρ).ok Tryd.prog := orcCons_ok (by kernel_rfl) (ok_unicode_utf8_appendRuneNonASCII) (orcNil_ok)
noncomputable def L_unicode_utf8_AppendRune {ρ : Type} : LOrc ρ := lorcNil
omit [Tabs] [QuietD Tryd.prog] [UDef] [UTabs] in
theorem e_unicode_utf8_AppendRune (x) : evF Tryd.prog 16 TT M_unicode_utf8_AppendRune F_unicode_utf8_AppendRune (O_unicode_utf8_AppendRune) (L_unicode_utf8_AppendRune) dorcNil ⟨[], [], []⟩ [.tmp 4] C_unicode_utf8_AppendRune x = unicode_utf8_AppendRune x := by kernel_rfl
omit [UDef] [UTabs] in
theorem ok_unicode_utf8_AppendRune : Contract Tryd.prog 61 F_unicode_utf8_AppendRune (unicode_utf8_AppendRune) :=
  Contract.of_ev (c := C_unicode_utf8_AppendRune) (N := 16) Tryd.func61 (by kernel_rfl) (by kernel_rfl) (by kernel_rfl) (by kernel_rfl) (O_unicode_utf8_AppendRune_ok) dorcNil_ok (.of (l := []) (by kernel_rfl) trivial) (e_unicode_utf8_AppendRune)

noncomputable def C_pstrings_Builder_WriteRune : Code := bodyOf Tryd.f51
noncomputable def M_pstrings_Builder_WriteRune : List (Nat × ArgM) := [(58, ⟨[0], [], [], false⟩), (61, ⟨[0], [⟨0, 1000000, 5, 1⟩], [], false⟩)]
instance : DfOk M_pstrings_Builder_WriteRune := .none rfl
noncomputable def O_pstrings_Builder_WriteRune {ρ : Type} : Orc ρ := orcCons 58 F_cc (copyCheckN) (orcCons 61 F_unicode_utf8_AppendRune (unicode_utf8_AppendRune) (orcNil))
omit [UDef] [UTabs] in
theorem O_pstrings_Builder_WriteRune_ok {ρ : Type} : (O_pstrings_Builder_WriteRune : Orc ρ).ok Tryd.prog := orcCons_ok (by kernel_rfl) (copyCheckN_ok) (orcCons_ok (by kernel_rfl) (ok_unicode_utf8_AppendRune) (orcNil_ok))
noncomputable def L_pstrings_Builder_WriteRune {ρ : Type} : LOrc ρ := lorcNil
omit [Tabs] [QuietD Tryd.prog] [UDef] [UTabs] in
theorem e_pstrings_Builder_WriteRune (x) : evF Tryd.prog 30 TT M_pstrings_Builder_WriteRune F_pstrings_Builder_WriteRune (O_pstrings_Builder_WriteRune) (L_pstrings_Builder_WriteRune) dorcNil ⟨[], [], []⟩ [.tmp 4, .tmp 5] C_pstrings_Builder_WriteRune x = pstrings_Builder_WriteRune x := by kernel_rfl
omit [UDef] [UTabs] in
theorem ok_pstrings_Builder_WriteRune : Contract Tryd.prog 51 F_pstrings_Builder_WriteRune (pstrings_Builder_WriteRune) :=
  Contract.of_ev (c := C_pstrings_Builder_WriteRune) (N := 30) Tryd.func51 (by kernel_rfl) (by kernel_rfl) (by kernel_rfl) (by kernel_rfl) (O_pstrings_Builder_WriteRune_ok) dorcNil_ok (.of (l := []) (by kernel_rfl) trivial) (e_pstrings_Builder_WriteRune)

noncomputable def C_value_tell : Code := bodyOf Tryd.f34
noncomputable def M_value_tell : List (Nat × ArgM) := [(47, ⟨[0], [], [], false⟩), (50, ⟨[0], [], [], false⟩), (51, ⟨[0], [], [], false⟩), (34, ⟨[0], [], [], false⟩), (48, ⟨[], [], [], true⟩), (49, ⟨[], [], [], true⟩)]
instance : DfOk M_value_tell := .none rfl
noncomputable def O_value_tell {ρ : Type} (self_value_tell : Ev.Val × Unit × (List Int) × Unit → Option (Unit × (List Int) × Unit)) (n : Nat) : Orc ρ := orcCons 47 F_pstrings_Builder_WriteString (pstrings_Builder_WriteString) (orcCons 48 F_strconv_FormatBool (strconv_FormatBool) (orcCons 49 F_itoa (itoaN) (orcCons 50 F_pstrings_Builder_WriteByte (pstrings_Builder_WriteByte) (orcCons 51 F_pstrings_Builder_WriteRune (pstrings_Builder_WriteRune) (orcCons 34 F_value_tell (self_value_tell) (orcNil))))))
omit [UDef] in
theorem O_value_tell_ok {ρ : Type} (self_value_tell : Ev.Val × Unit × (List Int) × Unit → Option (Unit × (List Int) × Unit)) (h_value_tell : Contract Tryd.prog 34 F_value_tell self_value_tell) (n : Nat) : (O_value_tell self_value_tell n : Orc ρ).ok Tryd.prog := orcCons_ok (by kernel_rfl) (ok_pstrings_Builder_WriteString) (orcCons_ok (by kernel_rfl) (ok_strconv_FormatBool) (orcCons_ok (by kernel_rfl) (itoaN_ok) (orcCons_ok (by kernel_rfl) (ok_pstrings_Builder_WriteByte) (orcCons_ok (by kernel_rfl) (ok_pstrings_Builder_WriteRune) (orcCons_ok (by kernel_rfl) (h_value_tell) (orcNil_ok))))))
noncomputable def T_value_tell_s1 : Tm := ⟨[(0, .ptr 1000000 0), (35, .ptr 35 0)], [], [(35, .it), (1000000, .box [.ref (.pn 1000000), .ref (.own 1000001)] (some 66)), (1000001, .arr 5 .u8)]⟩
noncomputable def X_value_tell_s1 : Tm := ⟨[(0, .ptr 1000000 0)], [], [(1000000, .box [.ref (.pn 1000000), .ref (.own 1000001)] (some 66)), (1000001, .arr 5 .u8)]⟩
noncomputable def R_value_tell_s1 : Tm := ⟨[], [], []⟩
noncomputable def L_value_tell_s1 {ρ : Type} (self_value_tell : Ev.Val × Unit × (List Int) × Unit → Option (Unit × (List Int) × Unit)) (n : Nat) : LOrc ρ := lorcNil
omit [Tabs] [QuietD Tryd.prog] [UDef] [UTabs] in
theorem s_value_tell_s1 {ρ : Type} (self_value_tell : Ev.Val × Unit × (List Int) × Unit → Option (Unit × (List Int) × Unit)) (n : Nat) (rec : T_value_tell_s1.den → Option ρ) kx kr s : dStep Tryd.prog 76 TT M_value_tell (O_value_tell self_value_tell n) (L_value_tell_s1 self_value_tell n) dorcNil 1 (lbody 1000 C_value_tell 0) T_value_tell_s1 X_value_tell_s1 R_value_tell_s1 ⟨[], [], []⟩ rec kx kr s = value_tell_s1 self_value_tell n rec kx kr s := by kernel_rfl
noncomputable def T_value_tell_s4 : Tm := ⟨[(0, .ptr 1000000 0)], [(59, (.lst .val)), (60, .i64), (61, .i64)], [(1000000, .box [.ref (.pn 1000000), .ref (.own 1000001)] (some 66)), (1000001, .arr 5 .u8)]⟩
noncomputable def X_value_tell_s4 : Tm := ⟨[(0, .ptr 1000000 0)], [], [(1000000, .box [.ref (.pn 1000000), .ref (.own 1000001)] (some 66)), (1000001, .arr 5 .u8)]⟩
noncomputable def R_value_tell_s4 : Tm := ⟨[], [], []⟩
noncomputable def L_value_tell_s4 {ρ : Type} (self_value_tell : Ev.Val × Unit × (List Int) × Unit → Option (Unit × (List Int) × Unit)) (n : Nat) : LOrc ρ := lorcNil
omit [Tabs] [QuietD Tryd.prog] [UDef] [UTabs] in
theorem s_value_tell_s4 {ρ : Type} (self_value_tell : Ev.Val × Unit × (List Int) × Unit → Option (Unit × (List Int) × Unit)) (n : Nat) (rec : T_value_tell_s4.den → Option ρ) kx kr s : dStep Tryd.prog 76 TT M_value_tell (O_value_tell self_value_tell n) (L_value_tell_s4 self_value_tell n) dorcNil 4 (lbody 1000 C_value_tell 1) T_value_tell_s4 X_value_tell_s4 R_value_tell_s4 ⟨[], [], []⟩ rec kx kr s = value_tell_s4 self_value_tell n rec kx kr s := by kernel_rfl
noncomputable def L_value_tell {ρ : Type} (self_value_tell : Ev.Val × Unit × (List Int) × Unit → Option (Unit × (List Int) × Unit)) (n : Nat) : LOrc ρ := lorcCons 1 (loopL 76 1 n T_value_tell_s1 X_value_tell_s1 R_value_tell_s1 ⟨[], [], []⟩ (value_tell_s1 self_value_tell n)) (lorcCons 4 (loopL 76 4 n T_value_tell_s4 X_value_tell_s4 R_value_tell_s4 ⟨[], [], []⟩ (value_tell_s4 self_value_tell n)) (lorcNil))
omit [Tabs] [QuietD Tryd.prog] [UDef] [UTabs] in
theorem e_value_tell (self_value_tell : Ev.Val × Unit × (List Int) × Unit → Option (Unit × (List Int) × Unit)) (n : Nat) (x) : evF Tryd.prog 76 TT M_value_tell F_value_tell (O_value_tell self_value_tell n) (L_value_tell self_value_tell n) dorcNil ⟨[], [], []⟩ [] C_value_tell x = value_tell_b self_value_tell n x := by kernel_rfl
omit [UDef] in
theorem okb_value_tell (self_value_tell : Ev.Val × Unit × (List Int) × Unit → Option (Unit × (List Int) × Unit)) (h_value_tell : Contract Tryd.prog 34 F_value_tell self_value_tell) (n : Nat) : Contract Tryd.prog 34 F_value_tell (value_tell_b self_value_tell n) :=
  Contract.of_ev (c := C_value_tell) (N := 76) Tryd.func34 (by kernel_rfl) (by kernel_rfl) (by kernel_rfl) (by kernel_rfl) (O_value_tell_ok self_value_tell h_value_tell n) dorcNil_ok (.of (l := [(1, (lbody 1000 C_value_tell 0)), (4, (lbody 1000 C_value_tell 1))]) (by kernel_rfl) ⟨.head (loopL_sound (O_value_tell_ok self_value_tell h_value_tell n) dorcNil_ok (.of (l := []) (by kernel_rfl) trivial) (s_value_tell_s1 self_value_tell n)), ⟨.tail rfl (.head (loopL_sound (O_value_tell_ok self_value_tell h_value_tell n) dorcNil_ok (.of (l := []) (by kernel_rfl) trivial) (s_value_tell_s4 self_value_tell n))), trivial⟩⟩) (e_value_tell self_value_tell n)
omit [UDef] in
theorem ok_value_tell : ∀ n, Contract Tryd.prog 34 F_value_tell (value_tell n)
  | 0 => fun _ _ h => by cases h
  | n + 1 => okb_value_tell _ (ok_value_tell n) n

noncomputable def F_pstrings_Builder_Len : FnT := ⟨1, ⟨[(0, .ptr 1000000 0)], [], [(1000000, .box [.ref (.pn 1000000), .ref (.own 1000001)] (some 66)), (1000001, .arr 5 .u8)]⟩, [.v .i64], [(1000000, .box [.ref (.pn 1000000), .ref (.own 1000001)] (some 66)), (1000001, .arr 5 .u8)]⟩
noncomputable def C_pstrings_Builder_Len : Code := bodyOf Tryd.f35
noncomputable def M_pstrings_Builder_Len : List (Nat × ArgM) := []
instance : DfOk M_pstrings_Builder_Len := .none rfl
noncomputable def O_pstrings_Builder_Len {ρ : Type} : Orc ρ := orcNil
omit [QuietD Tryd.prog] [UDef] [UTabs] in
theorem O_pstrings_Builder_Len_ok {ρ : Type} : (O_pstrings_Builder_Len : Orc ρ).ok Tryd.prog := orcNil_ok
noncomputable def L_pstrings_Builder_Len {ρ : Type} : LOrc ρ := lorcNil
omit [Tabs] [QuietD Tryd.prog] [UDef] [UTabs] in
theorem e_pstrings_Builder_Len (x) : evF Tryd.prog 8 TT M_pstrings_Builder_Len F_pstrings_Builder_Len (O_pstrings_Builder_Len) (L_pstrings_Builder_Len) dorcNil ⟨[], [], []⟩ [.tmp 2] C_pstrings_Builder_Len x = pstrings_Builder_Len x := by kernel_rfl
omit [UDef] [UTabs] in
theorem ok_pstrings_Builder_Len : Contract Tryd.prog 35 F_pstrings_Builder_Len (pstrings_Builder_Len) :=
  Contract.of_ev (c := C_pstrings_Builder_Len) (N := 8) Tryd.func35 (by kernel_rfl) (by kernel_rfl) (by kernel_rfl) (by kernel_rfl) (O_pstrings_Builder_Len_ok) dorcNil_ok (.of (l := []) (by kernel_rfl) trivial) (e_pstrings_Builder_Len)

noncomputable def C_value_Print : Code := bodyOf Tryd.f18
noncomputable def M_value_Print : List (Nat × ArgM) := [(999999996, ⟨[66, 5], [], [], false⟩), (34, ⟨[0], [], [], false⟩), (35, ⟨[0], [], [], false⟩), (36, ⟨[0], [], [], false⟩), (33, ⟨[], [], [], true⟩)]
instance : DfOk M_value_Print := .none rfl
noncomputable def O_value_Print {ρ : Type} (n : Nat) : Orc ρ := orcCons 33 F_value_Check (value_Check n) (orcCons 34 F_value_tell (value_tell n) (orcCons 35 F_pstrings_Builder_Len (pstrings_Builder_Len) (orcCons 36 F_st (stringN) (orcNil))))
omit [UDef] in
theorem O_value_Print_ok {ρ : Type} (n : Nat) : (O_value_Print n : Orc ρ).ok Tryd.prog := orcCons_ok (by kernel_rfl) (ok_value_Check n) (orcCons_ok (by kernel_rfl) (ok_value_tell n) (orcCons_ok (by kernel_rfl) (ok_pstrings_Builder_Len) (orcCons_ok (by kernel_rfl) (stringN_ok) (orcNil_ok))))
noncomputable def L_value_Print {ρ : Type} (n : Nat) : LOrc ρ := lorcNil
omit [Tabs] [QuietD Tryd.prog] [UDef] [UTabs] in
theorem e_value_Print (n : Nat) (x) : evF Tryd.prog 16 TT M_value_Print F_value_Print (O_value_Print n) (L_value_Print n) dorcNil ⟨[], [], []⟩ [.tmp 2, .tmp 3] C_value_Print x = value_Print n x := by kernel_rfl
omit [UDef] in
theorem ok_value_Print (n : Nat) : Contract Tryd.prog 18 F_value_Print (value_Print n) :=
  Contract.of_ev (c := C_value_Print) (N := 16) Tryd.func18 (by kernel_rfl) (by kernel_rfl) (by kernel_rfl) (by kernel_rfl) (O_value_Print_ok n) dorcNil_ok (.of (l := []) (by kernel_rfl) trivial) (e_value_Print n)

noncomputable def F_value_Parse : FnT := ⟨1, ⟨[], [(0, .str)], []⟩, [.v .val, .v .i64, .v .i64], []⟩
noncomputable def F_pvalue_reader_value : FnT := ⟨2, ⟨[(0, .ptr 1000000 0)], [(1, .i64)], [(1000000, .box [.d .str, .d .i64])]⟩, [.v .val], [(1000000, .box [.d .str, .d .i64])]⟩
noncomputable def F_pvalue_reader_eat : FnT := ⟨2, ⟨[(0, .ptr 1000000 0)], [(1, .str)], [(1000000, .box [.d .str, .d .i64])]⟩, [.v .bool], [(1000000, .box [.d .str, .d .i64])]⟩
noncomputable def F_strings_HasPrefix : FnT := ⟨2, ⟨[], [(0, .str), (1, .str)], []⟩, [.v .bool], []⟩
noncomputable def F_internal_stringslite_HasPrefix : FnT := ⟨2, ⟨[], [(0, .str), (1, .str)], []⟩, [.v .bool], []⟩
noncomputable def C_internal_stringslite_HasPrefix : Code := bodyOf Tryd.f70
noncomputable def M_internal_stringslite_HasPrefix : List (Nat × ArgM) := []
instance : DfOk M_internal_stringslite_HasPrefix := .none rfl
noncomputable def O_internal_stringslite_HasPrefix {ρ : Type} : Orc ρ := orcNil
omit [QuietD Tryd.prog] [UDef] [UTabs] in
theorem O_internal_stringslite_HasPrefix_ok {ρ : Type} : (O_internal_stringslite_HasPrefix : Orc ρ).ok Tryd.prog := orcNil_ok
noncomputable def L_internal_stringslite_HasPrefix {ρ : Type} : LOrc ρ := lorcNil
omit [Tabs] [QuietD Tryd.prog] [UDef] [UTabs] in
theorem e_internal_stringslite_HasPrefix (x) : evF Tryd.prog 18 TT M_internal_stringslite_HasPrefix F_internal_stringslite_HasPrefix (O_internal_stringslite_HasPrefix) (L_internal_stringslite_HasPrefix) dorcNil ⟨[], [], []⟩ [.tmp 4] C_internal_stringslite_HasPrefix x = internal_stringslite_HasPrefix x := by kernel_rfl
omit [UDef] [UTabs] in
theorem ok_internal_stringslite_HasPrefix : Contract Tryd.prog 70 F_internal_stringslite_HasPrefix (internal_stringslite_HasPrefix) :=
  Contract.of_ev (c := C_internal_stringslite_HasPrefix) (N := 18) Tryd.func70 (by kernel_rfl) (by kernel_rfl) (by kernel_rfl) (by kernel_rfl) (O_internal_stringslite_HasPrefix_ok) dorcNil_ok (.of (l := []) (by kernel_rfl) trivial) (e_internal_stringslite_HasPrefix)

noncomputable def C_strings_HasPrefix : Code := bodyOf Tryd.f62
noncomputable def M_strings_HasPrefix : List (Nat × ArgM) := [(70, ⟨[], [], [], true⟩)]
instance : DfOk M_strings_HasPrefix := .none rfl
noncomputable def O_strings_HasPrefix {ρ : Type} : Orc ρ := orcCons 70 F_internal_stringslite_HasPrefix (internal_stringslite_HasPrefix) (orcNil)
omit [UDef] [UTabs] in
theorem O_strings_HasPrefix_ok {ρ : Type} : (O_strings_HasPrefix : Orc ρ).ok Tryd.prog := orcCons_ok (by kernel_rfl) (ok_internal_stringslite_HasPrefix) (orcNil_ok)
noncomputable def L_strings_HasPrefix {ρ : Type} : LOrc ρ := lorcNil
omit [Tabs] [QuietD Tryd.prog] [UDef] [UTabs] in
theorem e_strings_HasPrefix (x) : evF Tryd.prog 8 TT M_strings_HasPrefix F_strings_HasPrefix (O_strings_HasPrefix) (L_strings_HasPrefix) dorcNil ⟨[], [], []⟩ [.tmp 4] C_strings_HasPrefix x = strings_HasPrefix x := by kernel_rfl
omit [UDef] [UTabs] in
theorem ok_strings_HasPrefix : Contract Tryd.prog 62 F_strings_HasPrefix (strings_HasPrefix) :=
  Contract.of_ev (c := C_strings_HasPrefix) (N := 8) Tryd.func62 (by kernel_rfl) (by kernel_rfl) (by kernel_rfl) (by kernel_rfl) (O_strings_HasPrefix_ok) dorcNil_ok (.of (l := []) (by kernel_rfl) trivial) (e_strings_HasPrefix)

noncomputable def C_pvalue_reader_eat : Code := bodyOf Tryd.f52
noncomputable def M_pvalue_reader_eat : List (Nat × ArgM) := [(62, ⟨[], [], [], true⟩)]
instance : DfOk M_pvalue_reader_eat := .none rfl
noncomputable def O_pvalue_reader_eat {ρ : Type} : Orc ρ := orcCons 62 F_strings_HasPrefix (strings_HasPrefix) (orcNil)
omit [UDef] [UTabs] in
theorem O_pvalue_reader_eat_ok {ρ : Type} : (O_pvalue_reader_eat : Orc ρ).ok Tryd.prog := orcCons_ok (by kernel_rfl) (ok_strings_HasPrefix) (orcNil_ok)
noncomputable def L_pvalue_reader_eat {ρ : Type} : LOrc ρ := lorcNil
omit [Tabs] [QuietD Tryd.prog] [UDef] [UTabs] in
theorem e_pvalue_reader_eat (x) : evF Tryd.prog 26 TT M_pvalue_reader_eat F_pvalue_reader_eat (O_pvalue_reader_eat) (L_pvalue_reader_eat) (evDraw Tryd.prog 26 TT M_pvalue_reader_eat (O_pvalue_reader_eat)) ⟨[], [], []⟩ [.tmp 4] C_pvalue_reader_eat x = pvalue_reader_eat x := by kernel_rfl
omit [UDef] [UTabs] in
theorem ok_pvalue_reader_eat : Contract Tryd.prog 52 F_pvalue_reader_eat (pvalue_reader_eat) :=
  Contract.of_ev (c := C_pvalue_reader_eat) (N := 26) Tryd.func52 (by kernel_rfl) (by kernel_rfl) (by kernel_rfl) (by kernel_rfl) (O_pvalue_reader_eat_ok) (evDraw_ok (O_pvalue_reader_eat_ok) (by kernel_rfl)) (.of (l := []) (by kernel_rfl) trivial) (e_pvalue_reader_eat)

noncomputable def F_value_truth : FnT := ⟨1, ⟨[], [(0, .bool)], []⟩, [.v .val], []⟩
noncomputable def C_value_truth : Code := bodyOf Tryd.f53
noncomputable def M_value_truth : List (Nat × ArgM) := []
instance : DfOk M_value_truth := .none rfl
noncomputable def O_value_truth {ρ : Type} : Orc ρ := orcNil
omit [QuietD Tryd.prog] [UDef] [UTabs] in
theorem O_value_truth_ok {ρ : Type} : (O_value_truth : Orc ρ).ok Tryd.prog := orcNil_ok
noncomputable def L_value_truth {ρ : Type} : LOrc ρ := lorcNil
omit [Tabs] [QuietD Tryd.prog] [UDef] [UTabs] in
theorem e_value_truth (x) : evF Tryd.prog 8 TT M_value_truth F_value_truth (O_value_truth) (L_value_truth) dorcNil ⟨[], [], []⟩ [.cell 2 24] C_value_truth x = value_truth x := by kernel_rfl
omit [UDef] [UTabs] in
theorem ok_value_truth : Contract Tryd.prog 53 F_value_truth (value_truth) :=
  Contract.of_ev (c := C_value_truth) (N := 8) Tryd.func53 (by kernel_rfl) (by kernel_rfl) (by kernel_rfl) (by kernel_rfl) (O_value_truth_ok) dorcNil_ok (.of (l := []) (by kernel_rfl) trivial) (e_value_truth)

noncomputable def F_pvalue_reader_text : FnT := ⟨1, ⟨[(0, .ptr 1000000 0)], [], [(1000000, .box [.d .str, .d .i64])]⟩, [.v .str], [(1000000, .box [.d .str, .d .i64])]⟩
noncomputable def C_pvalue_reader_text : Code := bodyOf Tryd.f54
noncomputable def M_pvalue_reader_text : List (Nat × ArgM) := [(999999996, ⟨[66, 5], [], [], false⟩), (52, ⟨[0], [], [], false⟩), (36, ⟨[0], [], [], false⟩), (50, ⟨[0], [], [], false⟩), (51, ⟨[0], [], [], false⟩), (63, ⟨[], [], [], true⟩)]
instance : DfOk M_pvalue_reader_text := .none rfl
noncomputable def O_pvalue_reader_text {ρ : Type} (n : Nat) : Orc ρ := orcCons 52 F_pvalue_reader_eat (pvalue_reader_eat) (orcCons 36 F_st (stringN) (orcCons 50 F_pstrings_Builder_WriteByte (pstrings_Builder_WriteByte) (orcCons 63 F_decode (decodeN) (orcCons 51 F_pstrings_Builder_WriteRune (pstrings_Builder_WriteRune) (orcNil)))))
omit [UDef] in
theorem O_pvalue_reader_text_ok {ρ : Type} (n : Nat) : (O_pvalue_reader_text n : Orc ρ).ok Tryd.prog := orcCons_ok (by kernel_rfl) (ok_pvalue_reader_eat) (orcCons_ok (by kernel_rfl) (stringN_ok) (orcCons_ok (by kernel_rfl) (ok_pstrings_Builder_WriteByte) (orcCons_ok (by kernel_rfl) (decodeN_ok) (orcCons_ok (by kernel_rfl) (ok_pstrings_Builder_WriteRune) (orcNil_ok)))))
noncomputable def T_pvalue_reader_text_s0 : Tm := ⟨[(0, .ptr 1000000 0), (3, .ptr 3 0)], [], [(3, .box [.ref (.pn 3), .ref (.own 500003)] (some 66)), (500003, .arr 5 .u8), (1000000, .box [.d .str, .d .i64])]⟩
noncomputable def X_pvalue_reader_text_s0 : Tm := ⟨[], [], []⟩
noncomputable def R_pvalue_reader_text_s0 : Tm := ⟨[], [(2, .str)], [(1000000, .box [.d .str, .d .i64])]⟩
noncomputable def L_pvalue_reader_text_s0 {ρ : Type} (n : Nat) : LOrc ρ := lorcNil
omit [Tabs] [QuietD Tryd.prog] [UDef] [UTabs] in
theorem s_pvalue_reader_text_s0 {ρ : Type} (n : Nat) (rec : T_pvalue_reader_text_s0.den → Option ρ) kx kr s : dStep Tryd.prog 69 TT M_pvalue_reader_text (O_pvalue_reader_text n) (L_pvalue_reader_text_s0 n) (evDraw Tryd.prog 69 TT M_pvalue_reader_text (O_pvalue_reader_text n)) 0 (lbody 1000 C_pvalue_reader_text 0) T_pvalue_reader_text_s0 X_pvalue_reader_text_s0 R_pvalue_reader_text_s0 ⟨[], [], []⟩ rec kx kr s = pvalue_reader_text_s0 n rec kx kr s := by kernel_rfl
noncomputable def L_pvalue_reader_text {ρ : Type} (n : Nat) : LOrc ρ := lorcCons 0 (loopL 69 0 n T_pvalue_reader_text_s0 X_pvalue_reader_text_s0 R_pvalue_reader_text_s0 ⟨[], [], []⟩ (pvalue_reader_text_s0 n)) (lorcNil)
omit [Tabs] [QuietD Tryd.prog] [UDef] [UTabs] in
theorem e_pvalue_reader_text (n : Nat) (x) : evF Tryd.prog 69 TT M_pvalue_reader_text F_pvalue_reader_text (O_pvalue_reader_text n) (L_pvalue_reader_text n) (evDraw Tryd.prog 69 TT M_pvalue_reader_text (O_pvalue_reader_text n)) ⟨[], [], []⟩ [.tmp 2] C_pvalue_reader_text x = pvalue_reader_text n x := by kernel_rfl
omit [UDef] in
theorem ok_pvalue_reader_text (n : Nat) : Contract Tryd.prog 54 F_pvalue_reader_text (pvalue_reader_text n) :=
  Contract.of_ev (c := C_pvalue_reader_text) (N := 69) Tryd.func54 (by kernel_rfl) (by kernel_rfl) (by kernel_rfl) (by kernel_rfl) (O_pvalue_reader_text_ok n) (evDraw_ok (O_pvalue_reader_text_ok n) (by kernel_rfl)) (.of (l := [(0, (lbody 1000 C_pvalue_reader_text 0))]) (by kernel_rfl) ⟨.head (loopL_sound (O_pvalue_reader_text_ok n) (evDraw_ok (O_pvalue_reader_text_ok n) (by kernel_rfl)) (.of (l := []) (by kernel_rfl) trivial) (s_pvalue_reader_text_s0 n)), trivial⟩) (e_pvalue_reader_text n)

noncomputable def C_pvalue_reader_value : Code := bodyOf Tryd.f38
noncomputable def M_pvalue_reader_value : List (Nat × ArgM) := [(52, ⟨[0], [], [], false⟩), (54, ⟨[0], [], [], false⟩), (38, ⟨[0], [], [], false⟩), (49, ⟨[], [], [], true⟩)]
instance : DfOk M_pvalue_reader_value := .none rfl
noncomputable def O_pvalue_reader_value {ρ : Type} (self_pvalue_reader_value : Int × (ByteArray × Int × Unit) × Unit → Option (Ev.Val × (ByteArray × Int × Unit) × Unit)) (n : Nat) : Orc ρ := orcCons 52 F_pvalue_reader_eat (pvalue_reader_eat) (orcCons 53 F_value_truth (value_truth) (orcCons 54 F_pvalue_reader_text (pvalue_reader_text n) (orcCons 38 F_pvalue_reader_value (self_pvalue_reader_value) (orcCons 55 F_atoi (atoiN) (orcCons 49 F_itoa (itoaN) (orcNil))))))
omit [UDef] in
theorem O_pvalue_reader_value_ok {ρ : Type} (self_pvalue_reader_value : Int × (ByteArray × Int × Unit) × Unit → Option (Ev.Val × (ByteArray × Int × Unit) × Unit)) (h_pvalue_reader_value : Contract Tryd.prog 38 F_pvalue_reader_value self_pvalue_reader_value) (n : Nat) : (O_pvalue_reader_value self_pvalue_reader_value n : Orc ρ).ok Tryd.prog := orcCons_ok (by kernel_rfl) (ok_pvalue_reader_eat) (orcCons_ok (by kernel_rfl) (ok_value_truth) (orcCons_ok (by kernel_rfl) (ok_pvalue_reader_text n) (orcCons_ok (by kernel_rfl) (h_pvalue_reader_value) (orcCons_ok (by kernel_rfl) (atoiN_ok) (orcCons_ok (by kernel_rfl) (itoaN_ok) (orcNil_ok))))))
noncomputable def T_pvalue_reader_value_s1 : Tm := ⟨[(0, .ptr 1000000 0), (4, .ptr 4 0), (6, .ptr 6 0)], [(1, .i64)], [(4, .box [.d .val]), (6, .box [.d .i64, .d .i64, .d .str, .ref (.own 300243)]), (300243, .arr 24 .val), (1000000, .box [.d .str, .d .i64])]⟩
noncomputable def X_pvalue_reader_value_s1 : Tm := ⟨[], [], []⟩
noncomputable def R_pvalue_reader_value_s1 : Tm := ⟨[(4, .ptr 4 0)], [], [(4, .box [.d .i64, .d .i64, .d .str, .ref (.own 300243)]), (300243, .arr 24 .val), (1000000, .box [.d .str, .d .i64])]⟩
noncomputable def L_pvalue_reader_value_s1 {ρ : Type} (self_pvalue_reader_value : Int × (ByteArray × Int × Unit) × Unit → Option (Ev.Val × (ByteArray × Int × Unit) × Unit)) (n : Nat) : LOrc ρ := lorcNil
omit [Tabs] [QuietD Tryd.prog] [UDef] [UTabs] in
theorem s_pvalue_reader_value_s1 {ρ : Type} (self_pvalue_reader_value : Int × (ByteArray × Int × Unit) × Unit → Option (Ev.Val × (ByteArray × Int × Unit) × Unit)) (n : Nat) (rec : T_pvalue_reader_value_s1.den → Option ρ) kx kr s : dStep Tryd.prog 143 TT M_pvalue_reader_value (O_pvalue_reader_value self_pvalue_reader_value n) (L_pvalue_reader_value_s1 self_pvalue_reader_value n) (evDraw Tryd.prog 143 TT M_pvalue_reader_value (O_pvalue_reader_value self_pvalue_reader_value n)) 1 (lbody 1000 C_pvalue_reader_value 0) T_pvalue_reader_value_s1 X_pvalue_reader_value_s1 R_pvalue_reader_value_s1 ⟨[], [], [(6, 3, 300243, 24, 4)]⟩ rec kx kr s = pvalue_reader_value_s1 self_pvalue_reader_value n rec kx kr s := by kernel_rfl
noncomputable def T_pvalue_reader_value_s3 : Tm := ⟨[(0, .ptr 1000000 0), (4, .ptr 4 0)], [(5, .i64)], [(4, .box [.d .val]), (1000000, .box [.d .str, .d .i64])]⟩
noncomputable def X_pvalue_reader_value_s3 : Tm := ⟨[(0, .ptr 1000000 0), (4, .ptr 4 0)], [(5, .i64)], [(4, .box [.d .val]), (1000000, .box [.d .str, .d .i64])]⟩
noncomputable def R_pvalue_reader_value_s3 : Tm := ⟨[], [], []⟩
noncomputable def L_pvalue_reader_value_s3 {ρ : Type} (self_pvalue_reader_value : Int × (ByteArray × Int × Unit) × Unit → Option (Ev.Val × (ByteArray × Int × Unit) × Unit)) (n : Nat) : LOrc ρ := lorcNil
omit [Tabs] [QuietD Tryd.prog] [UDef] [UTabs] in
theorem s_pvalue_reader_value_s3 {ρ : Type} (self_pvalue_reader_value : Int × (ByteArray × Int × Unit) × Unit → Option (Ev.Val × (ByteArray × Int × Unit) × Unit)) (n : Nat) (rec : T_pvalue_reader_value_s3.den → Option ρ) kx kr s : dStep Tryd.prog 143 TT M_pvalue_reader_value (O_pvalue_reader_value self_pvalue_reader_value n) (L_pvalue_reader_value_s3 self_pvalue_reader_value n) (evDraw Tryd.prog 143 TT M_pvalue_reader_value (O_pvalue_reader_value self_pvalue_reader_value n)) 3 (lbody 1000 C_pvalue_reader_value 1) T_pvalue_reader_value_s3 X_pvalue_reader_value_s3 R_pvalue_reader_value_s3 ⟨[], [], []⟩ rec kx kr s = pvalue_reader_value_s3 self_pvalue_reader_value n rec kx kr s := by kernel_rfl
noncomputable def L_pvalue_reader_value {ρ : Type} (self_pvalue_reader_value : Int × (ByteArray × Int × Unit) × Unit → Option (Ev.Val × (ByteArray × Int × Unit) × Unit)) (n : Nat) : LOrc ρ := lorcCons 1 (loopL 143 1 n T_pvalue_reader_value_s1 X_pvalue_reader_value_s1 R_pvalue_reader_value_s1 ⟨[], [], [(6, 3, 300243, 24, 4)]⟩ (pvalue_reader_value_s1 self_pvalue_reader_value n)) (lorcCons 3 (loopL 143 3 n T_pvalue_reader_value_s3 X_pvalue_reader_value_s3 R_pvalue_reader_value_s3 ⟨[], [], []⟩ (pvalue_reader_value_s3 self_pvalue_reader_value n)) (lorcNil))
omit [Tabs] [QuietD Tryd.prog] [UDef] [UTabs] in
theorem e_pvalue_reader_value (self_pvalue_reader_value : Int × (ByteArray × Int × Unit) × Unit → Option (Ev.Val × (ByteArray × Int × Unit) × Unit)) (n : Nat) (x) : evF Tryd.prog 143 TT M_pvalue_reader_value F_pvalue_reader_value (O_pvalue_reader_value self_pvalue_reader_value n) (L_pvalue_reader_value self_pvalue_reader_value n) (evDraw Tryd.prog 143 TT M_pvalue_reader_value (O_pvalue_reader_value self_pvalue_reader_value n)) ⟨[], [], []⟩ [.cell 4 24] C_pvalue_reader_value x = pvalue_reader_value_b self_pvalue_reader_value n x := by kernel_rfl
omit [UDef] in
theorem okb_pvalue_reader_value (self_pvalue_reader_value : Int × (ByteArray × Int × Unit) × Unit → Option (Ev.Val × (ByteArray × Int × Unit) × Unit)) (h_pvalue_reader_value : Contract Tryd.prog 38 F_pvalue_reader_value self_pvalue_reader_value) (n : Nat) : Contract Tryd.prog 38 F_pvalue_reader_value (pvalue_reader_value_b self_pvalue_reader_value n) :=
  Contract.of_ev (c := C_pvalue_reader_value) (N := 143) Tryd.func38 (by kernel_rfl) (by kernel_rfl) (by kernel_rfl) (by kernel_rfl) (O_pvalue_reader_value_ok self_pvalue_reader_value h_pvalue_reader_value n) (evDraw_ok (O_pvalue_reader_value_ok self_pvalue_reader_value h_pvalue_reader_value n) (by kernel_rfl)) (.of (l := [(1, (lbody 1000 C_pvalue_reader_value 0)), (3, (lbody 1000 C_pvalue_reader_value 1))]) (by kernel_rfl) ⟨.head (loopL_sound (O_pvalue_reader_value_ok self_pvalue_reader_value h_pvalue_reader_value n) (evDraw_ok (O_pvalue_reader_value_ok self_pvalue_reader_value h_pvalue_reader_value n) (by kernel_rfl)) (.of (l := []) (by kernel_rfl) trivial) (s_pvalue_reader_value_s1 self_pvalue_reader_value n)), ⟨.tail rfl (.head (loopL_sound (O_pvalue_reader_value_ok self_pvalue_reader_value h_pvalue_reader_value n) (evDraw_ok (O_pvalue_reader_value_ok self_pvalue_reader_value h_pvalue_reader_value n) (by kernel_rfl)) (.of (l := []) (by kernel_rfl) trivial) (s_pvalue_reader_value_s3 self_pvalue_reader_value n))), trivial⟩⟩) (e_pvalue_reader_value self_pvalue_reader_value n)
omit [UDef] in
theorem ok_pvalue_reader_value : ∀ n, Contract Tryd.prog 38 F_pvalue_reader_value (pvalue_reader_value n)
  | 0 => fun _ _ h => by cases h
  | n + 1 => okb_pvalue_reader_value _ (ok_pvalue_reader_value n) n

noncomputable def C_value_Parse : Code := bodyOf Tryd.f22
noncomputable def M_value_Parse : List (Nat × ArgM) := [(999999997, ⟨[37], [], [], false⟩), (38, ⟨[0], [], [], false⟩), (33, ⟨[], [], [], true⟩)]
instance : DfOk M_value_Parse := ⟨fun g hg => UDef.ok g ((show ∀ x ∈ ([37] : List Nat), x ∈ ([37] : List Nat) by decide) g hg)⟩
noncomputable def O_value_Parse {ρ : Type} (n : Nat) : Orc ρ := orcCons 38 F_pvalue_reader_value (pvalue_reader_value n) (orcCons 33 F_value_Check (value_Check n) (orcNil))
omit [UDef] in
theorem O_value_Parse_ok {ρ : Type} (n : Nat) : (O_value_Parse n : Orc ρ).ok Tryd.prog := orcCons_ok (by kernel_rfl) (ok_pvalue_reader_value n) (orcCons_ok (by kernel_rfl) (ok_value_Check n) (orcNil_ok))
noncomputable def L_value_Parse {ρ : Type} (n : Nat) : LOrc ρ := lorcNil
omit [Tabs] [QuietD Tryd.prog] [UDef] [UTabs] in
theorem e_value_Parse (n : Nat) (x) : evF Tryd.prog 37 TT M_value_Parse F_value_Parse (O_value_Parse n) (L_value_Parse n) dorcNil ⟨[], [], []⟩ [.cell 2 24, .cell 3 3, .cell 4 25] C_value_Parse x = value_Parse n x := by kernel_rfl
theorem ok_value_Parse (n : Nat) : Contract Tryd.prog 22 F_value_Parse (value_Parse n) :=
  Contract.of_ev (c := C_value_Parse) (N := 37) Tryd.func22 (by kernel_rfl) (by kernel_rfl) (by kernel_rfl) (by kernel_rfl) (O_value_Parse_ok n) dorcNil_ok (.of (l := []) (by kernel_rfl) trivial) (e_value_Parse n)

noncomputable def F_espalierref_SameValue : FnT := ⟨2, ⟨[], [(0, .val), (1, .val)], []⟩, [.v .bool], []⟩
noncomputable def F_espalierref_OrderOf : FnT := ⟨2, ⟨[], [(0, .val), (1, .val)], []⟩, [.v .i64], []⟩
noncomputable def F_bytes_Compare : FnT := ⟨2, ⟨[], [(0, (.lst .u8)), (1, (.lst .u8))], []⟩, [.v .i64], []⟩
noncomputable def C_bytes_Compare : Code := bodyOf Tryd.f39
noncomputable def M_bytes_Compare : List (Nat × ArgM) := []
instance : DfOk M_bytes_Compare := .none rfl
noncomputable def O_bytes_Compare {ρ : Type} : Orc ρ := orcCons 56 T_cmpB (cmpN) (orcNil)
omit [QuietD Tryd.prog] [UDef] [UTabs] in
theorem O_bytes_Compare_ok {ρ : Type} : (O_bytes_Compare : Orc ρ).ok Tryd.prog := orcExt_ok (by kernel_rfl) (cmp_ok) (orcNil_ok)
noncomputable def L_bytes_Compare {ρ : Type} : LOrc ρ := lorcNil
omit [Tabs] [QuietD Tryd.prog] [UDef] [UTabs] in
theorem e_bytes_Compare (x) : evF Tryd.prog 8 TT M_bytes_Compare F_bytes_Compare (O_bytes_Compare) (L_bytes_Compare) dorcNil ⟨[], [], []⟩ [.tmp 4] C_bytes_Compare x = bytes_Compare x := by kernel_rfl
omit [UDef] [UTabs] in
theorem ok_bytes_Compare : Contract Tryd.prog 39 F_bytes_Compare (bytes_Compare) :=
  Contract.of_ev (c := C_bytes_Compare) (N := 8) Tryd.func39 (by kernel_rfl) (by kernel_rfl) (by kernel_rfl) (by kernel_rfl) (O_bytes_Compare_ok) dorcNil_ok (.of (l := []) (by kernel_rfl) trivial) (e_bytes_Compare)

noncomputable def C_espalierref_OrderOf : Code := bodyOf Tryd.f23
noncomputable def M_espalierref_OrderOf : List (Nat × ArgM) := [(39, ⟨[], [], [], true⟩), (23, ⟨[], [], [], true⟩)]
instance : DfOk M_espalierref_OrderOf := .none rfl
noncomputable def O_espalierref_OrderOf {ρ : Type} (self_espalierref_OrderOf : Ev.Val × Ev.Val × Unit → Option (Int × Unit)) (n : Nat) : Orc ρ := orcCons 39 F_bytes_Compare (bytes_Compare) (orcCons 23 F_espalierref_OrderOf (self_espalierref_OrderOf) (orcNil))
omit [UDef] [UTabs] in
theorem O_espalierref_OrderOf_ok {ρ : Type} (self_espalierref_OrderOf : Ev.Val × Ev.Val × Unit → Option (Int × Unit)) (h_espalierref_OrderOf : Contract Tryd.prog 23 F_espalierref_OrderOf self_espalierref_OrderOf) (n : Nat) : (O_espalierref_OrderOf self_espalierref_OrderOf n : Orc ρ).ok Tryd.prog := orcCons_ok (by kernel_rfl) (ok_bytes_Compare) (orcCons_ok (by kernel_rfl) (h_espalierref_OrderOf) (orcNil_ok))
noncomputable def T_espalierref_OrderOf_s1 : Tm := ⟨[(2, .ptr 2 0), (3, .ptr 3 0)], [(5, .i64)], [(2, .box [.d .val]), (3, .box [.d .val])]⟩
noncomputable def X_espalierref_OrderOf_s1 : Tm := ⟨[(2, .ptr 2 0), (3, .ptr 3 0)], [], [(2, .box [.d .val]), (3, .box [.d .val])]⟩
noncomputable def R_espalierref_OrderOf_s1 : Tm := ⟨[], [(4, .i64)], []⟩
noncomputable def L_espalierref_OrderOf_s1 {ρ : Type} (self_espalierref_OrderOf : Ev.Val × Ev.Val × Unit → Option (Int × Unit)) (n : Nat) : LOrc ρ := lorcNil
omit [Tabs] [QuietD Tryd.prog] [UDef] [UTabs] in
theorem s_espalierref_OrderOf_s1 {ρ : Type} (self_espalierref_OrderOf : Ev.Val × Ev.Val × Unit → Option (Int × Unit)) (n : Nat) (rec : T_espalierref_OrderOf_s1.den → Option ρ) kx kr s : dStep Tryd.prog 88 TT M_espalierref_OrderOf (O_espalierref_OrderOf self_espalierref_OrderOf n) (L_espalierref_OrderOf_s1 self_espalierref_OrderOf n) (evDraw Tryd.prog 88 TT M_espalierref_OrderOf (O_espalierref_OrderOf self_espalierref_OrderOf n)) 1 (lbody 1000 C_espalierref_OrderOf 0) T_espalierref_OrderOf_s1 X_espalierref_OrderOf_s1 R_espalierref_OrderOf_s1 ⟨[], [], []⟩ rec kx kr s = espalierref_OrderOf_s1 self_espalierref_OrderOf n rec kx kr s := by kernel_rfl
noncomputable def L_espalierref_OrderOf {ρ : Type} (self_espalierref_OrderOf : Ev.Val × Ev.Val × Unit → Option (Int × Unit)) (n : Nat) : LOrc ρ := lorcCons 1 (loopL 88 1 n T_espalierref_OrderOf_s1 X_espalierref_OrderOf_s1 R_espalierref_OrderOf_s1 ⟨[], [], []⟩ (espalierref_OrderOf_s1 self_espalierref_OrderOf n)) (lorcNil)
omit [Tabs] [QuietD Tryd.prog] [UDef] [UTabs] in
theorem e_espalierref_OrderOf (self_espalierref_OrderOf : Ev.Val × Ev.Val × Unit → Option (Int × Unit)) (n : Nat) (x) : evF Tryd.prog 88 TT M_espalierref_OrderOf F_espalierref_OrderOf (O_espalierref_OrderOf self_espalierref_OrderOf n) (L_espalierref_OrderOf self_espalierref_OrderOf n) (evDraw Tryd.prog 88 TT M_espalierref_OrderOf (O_espalierref_OrderOf self_espalierref_OrderOf n)) ⟨[], [], []⟩ [.tmp 4] C_espalierref_OrderOf x = espalierref_OrderOf_b self_espalierref_OrderOf n x := by kernel_rfl
omit [UDef] [UTabs] in
theorem okb_espalierref_OrderOf (self_espalierref_OrderOf : Ev.Val × Ev.Val × Unit → Option (Int × Unit)) (h_espalierref_OrderOf : Contract Tryd.prog 23 F_espalierref_OrderOf self_espalierref_OrderOf) (n : Nat) : Contract Tryd.prog 23 F_espalierref_OrderOf (espalierref_OrderOf_b self_espalierref_OrderOf n) :=
  Contract.of_ev (c := C_espalierref_OrderOf) (N := 88) Tryd.func23 (by kernel_rfl) (by kernel_rfl) (by kernel_rfl) (by kernel_rfl) (O_espalierref_OrderOf_ok self_espalierref_OrderOf h_espalierref_OrderOf n) (evDraw_ok (O_espalierref_OrderOf_ok self_espalierref_OrderOf h_espalierref_OrderOf n) (by kernel_rfl)) (.of (l := [(1, (lbody 1000 C_espalierref_OrderOf 0))]) (by kernel_rfl) ⟨.head (loopL_sound (O_espalierref_OrderOf_ok self_espalierref_OrderOf h_espalierref_OrderOf n) (evDraw_ok (O_espalierref_OrderOf_ok self_espalierref_OrderOf h_espalierref_OrderOf n) (by kernel_rfl)) (.of (l := []) (by kernel_rfl) trivial) (s_espalierref_OrderOf_s1 self_espalierref_OrderOf n)), trivial⟩) (e_espalierref_OrderOf self_espalierref_OrderOf n)
omit [UDef] [UTabs] in
theorem ok_espalierref_OrderOf : ∀ n, Contract Tryd.prog 23 F_espalierref_OrderOf (espalierref_OrderOf n)
  | 0 => fun _ _ h => by cases h
  | n + 1 => okb_espalierref_OrderOf _ (ok_espalierref_OrderOf n) n

noncomputable def C_espalierref_SameValue : Code := bodyOf Tryd.f7
noncomputable def M_espalierref_SameValue : List (Nat × ArgM) := [(23, ⟨[], [], [], true⟩)]
instance : DfOk M_espalierref_SameValue := .none rfl
noncomputable def O_espalierref_SameValue {ρ : Type} (n : Nat) : Orc ρ := orcCons 23 F_espalierref_OrderOf (espalierref_OrderOf n) (orcNil)
omit [UDef] [UTabs] in
theorem O_espalierref_SameValue_ok {ρ : Type} (n : Nat) : (O_espalierref_SameValue n : Orc ρ).ok Tryd.prog := orcCons_ok (by kernel_rfl) (ok_espalierref_OrderOf n) (orcNil_ok)
noncomputable def L_espalierref_SameValue {ρ : Type} (n : Nat) : LOrc ρ := lorcNil
omit [Tabs] [QuietD Tryd.prog] [UDef] [UTabs] in
theorem e_espalierref_SameValue (n : Nat) (x) : evF Tryd.prog 9 TT M_espalierref_SameValue F_espalierref_SameValue (O_espalierref_SameValue n) (L_espalierref_SameValue n) dorcNil ⟨[], [], []⟩ [.tmp 4] C_espalierref_SameValue x = espalierref_SameValue n x := by kernel_rfl
omit [UDef] [UTabs] in
theorem ok_espalierref_SameValue (n : Nat) : Contract Tryd.prog 7 F_espalierref_SameValue (espalierref_SameValue n) :=
  Contract.of_ev (c := C_espalierref_SameValue) (N := 9) Tryd.func7 (by kernel_rfl) (by kernel_rfl) (by kernel_rfl) (by kernel_rfl) (O_espalierref_SameValue_ok n) dorcNil_ok (.of (l := []) (by kernel_rfl) trivial) (e_espalierref_SameValue n)

noncomputable def C_espalierlaw_valued : Code := bodyOf Tryd.f6
noncomputable def M_espalierlaw_valued : List (Nat × ArgM) := [(18, ⟨[], [], [], true⟩), (7, ⟨[], [], [], true⟩)]
instance : DfOk M_espalierlaw_valued := .none rfl
noncomputable def O_espalierlaw_valued {ρ : Type} (n : Nat) : Orc ρ := orcCons 20 F_espalierlaw_num (espalierlaw_num) (orcCons 21 F_espalierlaw_str (espalierlaw_str) (orcCons 19 F_espalierlaw_list (espalierlaw_list) (orcCons 18 F_value_Print (value_Print n) (orcCons 22 F_value_Parse (value_Parse n) (orcCons 7 F_espalierref_SameValue (espalierref_SameValue n) (orcNil))))))
theorem O_espalierlaw_valued_ok {ρ : Type} (n : Nat) : (O_espalierlaw_valued n : Orc ρ).ok Tryd.prog := orcCons_ok (by kernel_rfl) (ok_espalierlaw_num) (orcCons_ok (by kernel_rfl) (ok_espalierlaw_str) (orcCons_ok (by kernel_rfl) (ok_espalierlaw_list) (orcCons_ok (by kernel_rfl) (ok_value_Print n) (orcCons_ok (by kernel_rfl) (ok_value_Parse n) (orcCons_ok (by kernel_rfl) (ok_espalierref_SameValue n) (orcNil_ok))))))
noncomputable def L_espalierlaw_valued {ρ : Type} (n : Nat) : LOrc ρ := lorcNil
omit [Tabs] [QuietD Tryd.prog] [UDef] [UTabs] in
theorem e_espalierlaw_valued (n : Nat) (x) : evF Tryd.prog 43 TT M_espalierlaw_valued F_espalierlaw_valued (O_espalierlaw_valued n) (L_espalierlaw_valued n) (evDraw Tryd.prog 43 TT M_espalierlaw_valued (O_espalierlaw_valued n)) ⟨[], [], []⟩ [.tmp 0] C_espalierlaw_valued x = espalierlaw_valued n x := by kernel_rfl
theorem ok_espalierlaw_valued (n : Nat) : Contract Tryd.prog 6 F_espalierlaw_valued (espalierlaw_valued n) :=
  Contract.of_ev (c := C_espalierlaw_valued) (N := 43) Tryd.func6 (by kernel_rfl) (by kernel_rfl) (by kernel_rfl) (by kernel_rfl) (O_espalierlaw_valued_ok n) (evDraw_ok (O_espalierlaw_valued_ok n) (by kernel_rfl)) (.of (l := []) (by kernel_rfl) trivial) (e_espalierlaw_valued n)

noncomputable def C_espalierlaw_ValueReckon : Code := bodyOf Tryd.f3
noncomputable def M_espalierlaw_ValueReckon : List (Nat × ArgM) := [(6, ⟨[], [], [], true⟩), (7, ⟨[], [], [], true⟩)]
instance : DfOk M_espalierlaw_ValueReckon := .none rfl
noncomputable def O_espalierlaw_ValueReckon {ρ : Type} (n : Nat) : Orc ρ := orcCons 4 F_value_Reckon (value_Reckon n) (orcCons 5 F_espalierref_ReckonOf (espalierref_ReckonOf n) (orcCons 6 F_espalierlaw_valued (espalierlaw_valued n) (orcCons 7 F_espalierref_SameValue (espalierref_SameValue n) (orcNil))))
theorem O_espalierlaw_ValueReckon_ok {ρ : Type} (n : Nat) : (O_espalierlaw_ValueReckon n : Orc ρ).ok Tryd.prog := orcCons_ok (by kernel_rfl) (ok_value_Reckon n) (orcCons_ok (by kernel_rfl) (ok_espalierref_ReckonOf n) (orcCons_ok (by kernel_rfl) (ok_espalierlaw_valued n) (orcCons_ok (by kernel_rfl) (ok_espalierref_SameValue n) (orcNil_ok))))
noncomputable def L_espalierlaw_ValueReckon {ρ : Type} (n : Nat) : LOrc ρ := lorcNil
omit [Tabs] [QuietD Tryd.prog] [UDef] [UTabs] in
theorem e_espalierlaw_ValueReckon (n : Nat) (x) : evF Tryd.prog 36 TT M_espalierlaw_ValueReckon F_espalierlaw_ValueReckon (O_espalierlaw_ValueReckon n) (L_espalierlaw_ValueReckon n) dorcNil ⟨[], [], []⟩ [.tmp 6] C_espalierlaw_ValueReckon x = espalierlaw_ValueReckon n x := by kernel_rfl
theorem ok_espalierlaw_ValueReckon (n : Nat) : Contract Tryd.prog 3 F_espalierlaw_ValueReckon (espalierlaw_ValueReckon n) :=
  Contract.of_ev (c := C_espalierlaw_ValueReckon) (N := 36) Tryd.func3 (by kernel_rfl) (by kernel_rfl) (by kernel_rfl) (by kernel_rfl) (O_espalierlaw_ValueReckon_ok n) dorcNil_ok (.of (l := []) (by kernel_rfl) trivial) (e_espalierlaw_ValueReckon n)

end Go.Proofs.YtidnjdmkkcakkaaDoor

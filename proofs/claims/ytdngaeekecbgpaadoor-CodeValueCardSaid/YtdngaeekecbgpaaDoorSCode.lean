/- Each of these functions computes what its plain function computes (written by gen.py). -/
import Derived.Test.YtdngaeekecbgpaaDoorSBase
import Derived.KernelRfl
import Derived.Test.YtdngaeekecbgpaaDoorEvDraw
import Derived.Test.YtdngaeekecbgpaaDoorPCode
namespace Go.Proofs.YtdngaeekecbgpaaDoor
open Go Esp Ev Pure
set_option linter.unusedSimpArgs false
set_option linter.unusedVariables false
set_option maxRecDepth 100000
variable [Tabs] [UTabs]
def TT : List (TypeId × Ty) := [(2, .i64), (3, .i64), (4, .bool), (5, .u8), (6, .u8), (9, .str), (10, .str), (11, .str), (12, .u64), (21, .i32), (22, .i64), (25, (.lst .val)), (27, .val), (31, (.lst .str)), (32, (.lst .i64)), (56, (.lst .u8)), (59, .u64), (63, .u32), (81, .u64), (100, .u8), (101, .u8), (104, .i32), (105, .i32)]

noncomputable def C_pcode_reader_take : Code := bodyOf Tryd.f42
noncomputable def F_pcode_reader_take : FnT := ⟨2, ⟨[(0, .ptr 1000000 0)], [(1, .i64)], [(1000000, .box [.d (.lst .u8), .d .bool])]⟩, [.v (.lst .u8)], [(1000000, .box [.d (.lst .u8), .d .bool])]⟩
noncomputable def M_pcode_reader_take : List (Nat × ArgM) := []
noncomputable def O_pcode_reader_take {ρ : Type} : Orc ρ := orcNil
omit [UTabs] in
theorem O_pcode_reader_take_ok {ρ : Type} : (O_pcode_reader_take : Orc ρ).ok Tryd.prog := orcNil_ok
noncomputable def L_pcode_reader_take {ρ : Type} : LOrc ρ := lorcNil
omit [Tabs] [UTabs] in
theorem e_pcode_reader_take (x) : evF Tryd.prog 41 TT M_pcode_reader_take F_pcode_reader_take (O_pcode_reader_take) (L_pcode_reader_take) dorcNil [.tmp 4] C_pcode_reader_take x = pcode_reader_take x := by kernel_rfl
omit [UTabs] in
theorem ok_pcode_reader_take : Contract Tryd.prog 42 F_pcode_reader_take (pcode_reader_take) :=
  Contract.of_ev (c := C_pcode_reader_take) (N := 41) Tryd.func42 (by kernel_rfl) (by kernel_rfl) (by kernel_rfl) (by kernel_rfl) (O_pcode_reader_take_ok) dorcNil_ok (.of (l := []) (by kernel_rfl) trivial) (e_pcode_reader_take)

noncomputable def C_code_numberOf : Code := bodyOf Tryd.f29
noncomputable def F_code_numberOf : FnT := ⟨1, ⟨[], [(0, (.lst .u8))], []⟩, [.v .u64], []⟩
noncomputable def M_code_numberOf : List (Nat × ArgM) := []
noncomputable def O_code_numberOf {ρ : Type} (n : Nat) : Orc ρ := orcNil
omit [UTabs] in
theorem O_code_numberOf_ok {ρ : Type} (n : Nat) : (O_code_numberOf n : Orc ρ).ok Tryd.prog := orcNil_ok
noncomputable def T_code_numberOf_s0 : Tm := ⟨[], [(3, .u64), (6, (.lst .u8)), (7, .i64), (8, .i64)], []⟩
noncomputable def X_code_numberOf_s0 : Tm := ⟨[], [(3, .u64)], []⟩
noncomputable def R_code_numberOf_s0 : Tm := ⟨[], [], []⟩
noncomputable def L_code_numberOf_s0 {ρ : Type} (n : Nat) : LOrc ρ := lorcNil
omit [Tabs] [UTabs] in
theorem s_code_numberOf_s0 {ρ : Type} (n : Nat) (rec : T_code_numberOf_s0.den → Option ρ) kx kr s : dStep Tryd.prog 19 TT M_code_numberOf (O_code_numberOf n) (L_code_numberOf_s0 n) dorcNil 0 (lbody 1000 C_code_numberOf 0) T_code_numberOf_s0 X_code_numberOf_s0 R_code_numberOf_s0 ⟨[], [], []⟩ rec kx kr s = code_numberOf_s0 n rec kx kr s := by kernel_rfl
noncomputable def L_code_numberOf {ρ : Type} (n : Nat) : LOrc ρ := lorcCons 0 (loopL 19 0 n T_code_numberOf_s0 X_code_numberOf_s0 R_code_numberOf_s0 ⟨[], [], []⟩ (code_numberOf_s0 n)) (lorcNil)
omit [Tabs] [UTabs] in
theorem e_code_numberOf (n : Nat) (x) : evF Tryd.prog 19 TT M_code_numberOf F_code_numberOf (O_code_numberOf n) (L_code_numberOf n) dorcNil [.tmp 2] C_code_numberOf x = code_numberOf n x := by kernel_rfl
omit [UTabs] in
theorem ok_code_numberOf (n : Nat) : Contract Tryd.prog 29 F_code_numberOf (code_numberOf n) :=
  Contract.of_ev (c := C_code_numberOf) (N := 19) Tryd.func29 (by kernel_rfl) (by kernel_rfl) (by kernel_rfl) (by kernel_rfl) (O_code_numberOf_ok n) dorcNil_ok (.of (l := [(0, (lbody 1000 C_code_numberOf 0))]) (by kernel_rfl) ⟨.head (loopL_sound (O_code_numberOf_ok n) dorcNil_ok (.of (l := []) (by kernel_rfl) trivial) (s_code_numberOf_s0 n)), trivial⟩) (e_code_numberOf n)

noncomputable def C_pcode_reader_value : Code := bodyOf Tryd.f33
noncomputable def F_pcode_reader_value : FnT := ⟨2, ⟨[(0, .ptr 1000000 0)], [(1, .i64)], [(1000000, .box [.d (.lst .u8), .d .bool])]⟩, [.v .val], [(1000000, .box [.d (.lst .u8), .d .bool])]⟩
noncomputable def M_pcode_reader_value : List (Nat × ArgM) := [(42, ⟨[0], [], []⟩), (33, ⟨[0], [], []⟩)]
noncomputable def O_pcode_reader_value {ρ : Type} (self_pcode_reader_value : Int × ((List Int) × Bool × Unit) × Unit → Option (Ev.Val × ((List Int) × Bool × Unit) × Unit)) (n : Nat) : Orc ρ := orcCons 42 F_pcode_reader_take (pcode_reader_take) (orcCons 29 F_code_numberOf (code_numberOf n) (orcCons 37 F_valid (validN) (orcCons 33 F_pcode_reader_value (self_pcode_reader_value) (orcNil))))
theorem O_pcode_reader_value_ok {ρ : Type} (self_pcode_reader_value : Int × ((List Int) × Bool × Unit) × Unit → Option (Ev.Val × ((List Int) × Bool × Unit) × Unit)) (h_pcode_reader_value : Contract Tryd.prog 33 F_pcode_reader_value self_pcode_reader_value) (n : Nat) : (O_pcode_reader_value self_pcode_reader_value n : Orc ρ).ok Tryd.prog := orcCons_ok (by kernel_rfl) (ok_pcode_reader_take) (orcCons_ok (by kernel_rfl) (ok_code_numberOf n) (orcCons_ok (by kernel_rfl) (validN_ok) (orcCons_ok (by kernel_rfl) (h_pcode_reader_value) (orcNil_ok))))
noncomputable def T_pcode_reader_value_s1 : Tm := ⟨[(0, .ptr 1000000 0), (4, .ptr 4 0), (5, .ptr 5 0)], [(1, .i64), (54, .i64), (55, .i64)], [(4, .box [.d .val]), (5, .box [.d .i64, .d .i64, .d .str, .ref (.own 300203)]), (300203, .arr 27 .val), (1000000, .box [.d (.lst .u8), .d .bool])]⟩
noncomputable def X_pcode_reader_value_s1 : Tm := ⟨[(4, .ptr 4 0), (5, .ptr 5 0)], [], [(4, .box [.d .val]), (5, .box [.d .i64, .d .i64, .d .str, .ref (.own 300203)]), (300203, .arr 27 .val), (1000000, .box [.d (.lst .u8), .d .bool])]⟩
noncomputable def R_pcode_reader_value_s1 : Tm := ⟨[], [], []⟩
noncomputable def L_pcode_reader_value_s1 {ρ : Type} (self_pcode_reader_value : Int × ((List Int) × Bool × Unit) × Unit → Option (Ev.Val × ((List Int) × Bool × Unit) × Unit)) (n : Nat) : LOrc ρ := lorcNil
omit [Tabs] [UTabs] in
theorem s_pcode_reader_value_s1 {ρ : Type} (self_pcode_reader_value : Int × ((List Int) × Bool × Unit) × Unit → Option (Ev.Val × ((List Int) × Bool × Unit) × Unit)) (n : Nat) (rec : T_pcode_reader_value_s1.den → Option ρ) kx kr s : dStep Tryd.prog 79 TT M_pcode_reader_value (O_pcode_reader_value self_pcode_reader_value n) (L_pcode_reader_value_s1 self_pcode_reader_value n) (evDraw Tryd.prog 79 TT M_pcode_reader_value (O_pcode_reader_value self_pcode_reader_value n)) 1 (lbody 1000 C_pcode_reader_value 0) T_pcode_reader_value_s1 X_pcode_reader_value_s1 R_pcode_reader_value_s1 ⟨[], [], [(5, 3, 300203, 27, 4)]⟩ rec kx kr s = pcode_reader_value_s1 self_pcode_reader_value n rec kx kr s := by kernel_rfl
noncomputable def L_pcode_reader_value {ρ : Type} (self_pcode_reader_value : Int × ((List Int) × Bool × Unit) × Unit → Option (Ev.Val × ((List Int) × Bool × Unit) × Unit)) (n : Nat) : LOrc ρ := lorcCons 1 (loopL 79 1 n T_pcode_reader_value_s1 X_pcode_reader_value_s1 R_pcode_reader_value_s1 ⟨[], [], [(5, 3, 300203, 27, 4)]⟩ (pcode_reader_value_s1 self_pcode_reader_value n)) (lorcNil)
omit [Tabs] [UTabs] in
theorem e_pcode_reader_value (self_pcode_reader_value : Int × ((List Int) × Bool × Unit) × Unit → Option (Ev.Val × ((List Int) × Bool × Unit) × Unit)) (n : Nat) (x) : evF Tryd.prog 79 TT M_pcode_reader_value F_pcode_reader_value (O_pcode_reader_value self_pcode_reader_value n) (L_pcode_reader_value self_pcode_reader_value n) (evDraw Tryd.prog 79 TT M_pcode_reader_value (O_pcode_reader_value self_pcode_reader_value n)) [.cell 4 27] C_pcode_reader_value x = pcode_reader_value_b self_pcode_reader_value n x := by kernel_rfl
theorem okb_pcode_reader_value (self_pcode_reader_value : Int × ((List Int) × Bool × Unit) × Unit → Option (Ev.Val × ((List Int) × Bool × Unit) × Unit)) (h_pcode_reader_value : Contract Tryd.prog 33 F_pcode_reader_value self_pcode_reader_value) (n : Nat) : Contract Tryd.prog 33 F_pcode_reader_value (pcode_reader_value_b self_pcode_reader_value n) :=
  Contract.of_ev (c := C_pcode_reader_value) (N := 79) Tryd.func33 (by kernel_rfl) (by kernel_rfl) (by kernel_rfl) (by kernel_rfl) (O_pcode_reader_value_ok self_pcode_reader_value h_pcode_reader_value n) (evDraw_ok (O_pcode_reader_value_ok self_pcode_reader_value h_pcode_reader_value n) (by kernel_rfl)) (.of (l := [(1, (lbody 1000 C_pcode_reader_value 0))]) (by kernel_rfl) ⟨.head (loopL_sound (O_pcode_reader_value_ok self_pcode_reader_value h_pcode_reader_value n) (evDraw_ok (O_pcode_reader_value_ok self_pcode_reader_value h_pcode_reader_value n) (by kernel_rfl)) (.of (l := []) (by kernel_rfl) trivial) (s_pcode_reader_value_s1 self_pcode_reader_value n)), trivial⟩) (e_pcode_reader_value self_pcode_reader_value n)
theorem ok_pcode_reader_value : ∀ n, Contract Tryd.prog 33 F_pcode_reader_value (pcode_reader_value n)
  | 0 => fun _ _ h => by cases h
  | n + 1 => okb_pcode_reader_value _ (ok_pcode_reader_value n) n

noncomputable def C_value_check : Code := bodyOf Tryd.f41
noncomputable def F_value_check : FnT := ⟨2, ⟨[], [(0, .val), (1, .i64)], []⟩, [.v .i64], []⟩
noncomputable def M_value_check : List (Nat × ArgM) := []
noncomputable def O_value_check {ρ : Type} (self_value_check : Ev.Val × Int × Unit → Option (Int × Unit)) (n : Nat) : Orc ρ := orcCons 37 F_valid (validN) (orcCons 41 F_value_check (self_value_check) (orcNil))
theorem O_value_check_ok {ρ : Type} (self_value_check : Ev.Val × Int × Unit → Option (Int × Unit)) (h_value_check : Contract Tryd.prog 41 F_value_check self_value_check) (n : Nat) : (O_value_check self_value_check n : Orc ρ).ok Tryd.prog := orcCons_ok (by kernel_rfl) (validN_ok) (orcCons_ok (by kernel_rfl) (h_value_check) (orcNil_ok))
noncomputable def T_value_check_s1 : Tm := ⟨[(2, .ptr 2 0)], [(1, .i64), (90, (.lst .val)), (91, .i64), (92, .i64)], [(2, .box [.d .val])]⟩
noncomputable def X_value_check_s1 : Tm := ⟨[(2, .ptr 2 0)], [], [(2, .box [.d .val])]⟩
noncomputable def R_value_check_s1 : Tm := ⟨[], [(4, .i64)], []⟩
noncomputable def L_value_check_s1 {ρ : Type} (self_value_check : Ev.Val × Int × Unit → Option (Int × Unit)) (n : Nat) : LOrc ρ := lorcNil
omit [Tabs] [UTabs] in
theorem s_value_check_s1 {ρ : Type} (self_value_check : Ev.Val × Int × Unit → Option (Int × Unit)) (n : Nat) (rec : T_value_check_s1.den → Option ρ) kx kr s : dStep Tryd.prog 114 TT M_value_check (O_value_check self_value_check n) (L_value_check_s1 self_value_check n) dorcNil 1 (lbody 1000 C_value_check 0) T_value_check_s1 X_value_check_s1 R_value_check_s1 ⟨[], [], []⟩ rec kx kr s = value_check_s1 self_value_check n rec kx kr s := by kernel_rfl
noncomputable def L_value_check {ρ : Type} (self_value_check : Ev.Val × Int × Unit → Option (Int × Unit)) (n : Nat) : LOrc ρ := lorcCons 1 (loopL 114 1 n T_value_check_s1 X_value_check_s1 R_value_check_s1 ⟨[], [], []⟩ (value_check_s1 self_value_check n)) (lorcNil)
omit [Tabs] [UTabs] in
theorem e_value_check (self_value_check : Ev.Val × Int × Unit → Option (Int × Unit)) (n : Nat) (x) : evF Tryd.prog 114 TT M_value_check F_value_check (O_value_check self_value_check n) (L_value_check self_value_check n) dorcNil [.tmp 4] C_value_check x = value_check_b self_value_check n x := by kernel_rfl
theorem okb_value_check (self_value_check : Ev.Val × Int × Unit → Option (Int × Unit)) (h_value_check : Contract Tryd.prog 41 F_value_check self_value_check) (n : Nat) : Contract Tryd.prog 41 F_value_check (value_check_b self_value_check n) :=
  Contract.of_ev (c := C_value_check) (N := 114) Tryd.func41 (by kernel_rfl) (by kernel_rfl) (by kernel_rfl) (by kernel_rfl) (O_value_check_ok self_value_check h_value_check n) dorcNil_ok (.of (l := [(1, (lbody 1000 C_value_check 0))]) (by kernel_rfl) ⟨.head (loopL_sound (O_value_check_ok self_value_check h_value_check n) dorcNil_ok (.of (l := []) (by kernel_rfl) trivial) (s_value_check_s1 self_value_check n)), trivial⟩) (e_value_check self_value_check n)
theorem ok_value_check : ∀ n, Contract Tryd.prog 41 F_value_check (value_check n)
  | 0 => fun _ _ h => by cases h
  | n + 1 => okb_value_check _ (ok_value_check n) n

noncomputable def C_value_Check : Code := bodyOf Tryd.f25
noncomputable def F_value_Check : FnT := ⟨1, ⟨[], [(0, .val)], []⟩, [.v .i64], []⟩
noncomputable def M_value_Check : List (Nat × ArgM) := []
noncomputable def O_value_Check {ρ : Type} (n : Nat) : Orc ρ := orcCons 41 F_value_check (value_check n) (orcNil)
theorem O_value_Check_ok {ρ : Type} (n : Nat) : (O_value_Check n : Orc ρ).ok Tryd.prog := orcCons_ok (by kernel_rfl) (ok_value_check n) (orcNil_ok)
noncomputable def L_value_Check {ρ : Type} (n : Nat) : LOrc ρ := lorcNil
omit [Tabs] [UTabs] in
theorem e_value_Check (n : Nat) (x) : evF Tryd.prog 5 TT M_value_Check F_value_Check (O_value_Check n) (L_value_Check n) dorcNil [.tmp 2] C_value_Check x = value_Check n x := by kernel_rfl
theorem ok_value_Check (n : Nat) : Contract Tryd.prog 25 F_value_Check (value_Check n) :=
  Contract.of_ev (c := C_value_Check) (N := 5) Tryd.func25 (by kernel_rfl) (by kernel_rfl) (by kernel_rfl) (by kernel_rfl) (O_value_Check_ok n) dorcNil_ok (.of (l := []) (by kernel_rfl) trivial) (e_value_Check n)

noncomputable def C_code_Value : Code := bodyOf Tryd.f18
noncomputable def F_code_Value : FnT := ⟨1, ⟨[], [(0, .str)], []⟩, [.v .val, .v .i64], []⟩
noncomputable def M_code_Value : List (Nat × ArgM) := [(33, ⟨[0], [], []⟩)]
noncomputable def O_code_Value {ρ : Type} (n : Nat) : Orc ρ := orcCons 33 F_pcode_reader_value (pcode_reader_value n) (orcCons 25 F_value_Check (value_Check n) (orcNil))
theorem O_code_Value_ok {ρ : Type} (n : Nat) : (O_code_Value n : Orc ρ).ok Tryd.prog := orcCons_ok (by kernel_rfl) (ok_pcode_reader_value n) (orcCons_ok (by kernel_rfl) (ok_value_Check n) (orcNil_ok))
noncomputable def L_code_Value {ρ : Type} (n : Nat) : LOrc ρ := lorcNil
omit [Tabs] [UTabs] in
theorem e_code_Value (n : Nat) (x) : evF Tryd.prog 35 TT M_code_Value F_code_Value (O_code_Value n) (L_code_Value n) dorcNil [.cell 2 27, .tmp 3] C_code_Value x = code_Value n x := by kernel_rfl
theorem ok_code_Value (n : Nat) : Contract Tryd.prog 18 F_code_Value (code_Value n) :=
  Contract.of_ev (c := C_code_Value) (N := 35) Tryd.func18 (by kernel_rfl) (by kernel_rfl) (by kernel_rfl) (by kernel_rfl) (O_code_Value_ok n) dorcNil_ok (.of (l := []) (by kernel_rfl) trivial) (e_code_Value n)

noncomputable def C_code_Long : Code := bodyOf Tryd.f19
noncomputable def F_code_Long : FnT := ⟨1, ⟨[], [(0, .str)], []⟩, [.v .i64, .v .bool], []⟩
noncomputable def M_code_Long : List (Nat × ArgM) := [(33, ⟨[0], [], []⟩)]
noncomputable def O_code_Long {ρ : Type} (n : Nat) : Orc ρ := orcCons 33 F_pcode_reader_value (pcode_reader_value n) (orcCons 25 F_value_Check (value_Check n) (orcNil))
theorem O_code_Long_ok {ρ : Type} (n : Nat) : (O_code_Long n : Orc ρ).ok Tryd.prog := orcCons_ok (by kernel_rfl) (ok_pcode_reader_value n) (orcCons_ok (by kernel_rfl) (ok_value_Check n) (orcNil_ok))
noncomputable def L_code_Long {ρ : Type} (n : Nat) : LOrc ρ := lorcNil
omit [Tabs] [UTabs] in
theorem e_code_Long (n : Nat) (x) : evF Tryd.prog 29 TT M_code_Long F_code_Long (O_code_Long n) (L_code_Long n) dorcNil [.tmp 2, .tmp 3] C_code_Long x = code_Long n x := by kernel_rfl
theorem ok_code_Long (n : Nat) : Contract Tryd.prog 19 F_code_Long (code_Long n) :=
  Contract.of_ev (c := C_code_Long) (N := 29) Tryd.func19 (by kernel_rfl) (by kernel_rfl) (by kernel_rfl) (by kernel_rfl) (O_code_Long_ok n) dorcNil_ok (.of (l := []) (by kernel_rfl) trivial) (e_code_Long n)

noncomputable def C_espalierref_ofHigh : Code := bodyOf Tryd.f32
noncomputable def F_espalierref_ofHigh : FnT := ⟨1, ⟨[], [(0, .str)], []⟩, [.v .u64], []⟩
noncomputable def M_espalierref_ofHigh : List (Nat × ArgM) := []
noncomputable def O_espalierref_ofHigh {ρ : Type} (n : Nat) : Orc ρ := orcNil
omit [UTabs] in
theorem O_espalierref_ofHigh_ok {ρ : Type} (n : Nat) : (O_espalierref_ofHigh n : Orc ρ).ok Tryd.prog := orcNil_ok
noncomputable def T_espalierref_ofHigh_s0 : Tm := ⟨[], [(0, .str), (3, .u64), (6, .i64), (7, .i64)], []⟩
noncomputable def X_espalierref_ofHigh_s0 : Tm := ⟨[], [(3, .u64)], []⟩
noncomputable def R_espalierref_ofHigh_s0 : Tm := ⟨[], [], []⟩
noncomputable def L_espalierref_ofHigh_s0 {ρ : Type} (n : Nat) : LOrc ρ := lorcNil
omit [Tabs] [UTabs] in
theorem s_espalierref_ofHigh_s0 {ρ : Type} (n : Nat) (rec : T_espalierref_ofHigh_s0.den → Option ρ) kx kr s : dStep Tryd.prog 19 TT M_espalierref_ofHigh (O_espalierref_ofHigh n) (L_espalierref_ofHigh_s0 n) dorcNil 0 (lbody 1000 C_espalierref_ofHigh 0) T_espalierref_ofHigh_s0 X_espalierref_ofHigh_s0 R_espalierref_ofHigh_s0 ⟨[], [], []⟩ rec kx kr s = espalierref_ofHigh_s0 n rec kx kr s := by kernel_rfl
noncomputable def L_espalierref_ofHigh {ρ : Type} (n : Nat) : LOrc ρ := lorcCons 0 (loopL 19 0 n T_espalierref_ofHigh_s0 X_espalierref_ofHigh_s0 R_espalierref_ofHigh_s0 ⟨[], [], []⟩ (espalierref_ofHigh_s0 n)) (lorcNil)
omit [Tabs] [UTabs] in
theorem e_espalierref_ofHigh (n : Nat) (x) : evF Tryd.prog 19 TT M_espalierref_ofHigh F_espalierref_ofHigh (O_espalierref_ofHigh n) (L_espalierref_ofHigh n) dorcNil [.tmp 2] C_espalierref_ofHigh x = espalierref_ofHigh n x := by kernel_rfl
omit [UTabs] in
theorem ok_espalierref_ofHigh (n : Nat) : Contract Tryd.prog 32 F_espalierref_ofHigh (espalierref_ofHigh n) :=
  Contract.of_ev (c := C_espalierref_ofHigh) (N := 19) Tryd.func32 (by kernel_rfl) (by kernel_rfl) (by kernel_rfl) (by kernel_rfl) (O_espalierref_ofHigh_ok n) dorcNil_ok (.of (l := [(0, (lbody 1000 C_espalierref_ofHigh 0))]) (by kernel_rfl) ⟨.head (loopL_sound (O_espalierref_ofHigh_ok n) dorcNil_ok (.of (l := []) (by kernel_rfl) trivial) (s_espalierref_ofHigh_s0 n)), trivial⟩) (e_espalierref_ofHigh n)

noncomputable def C_espalierref_unbyte : Code := bodyOf Tryd.f34
noncomputable def F_espalierref_unbyte : FnT := ⟨2, ⟨[], [(0, .str), (1, .i64)], []⟩, [.v .val, .v .str, .v .bool], []⟩
noncomputable def M_espalierref_unbyte : List (Nat × ArgM) := []
noncomputable def O_espalierref_unbyte {ρ : Type} (self_espalierref_unbyte : ByteArray × Int × Unit → Option (Ev.Val × ByteArray × Bool × Unit)) (n : Nat) : Orc ρ := orcCons 32 F_espalierref_ofHigh (espalierref_ofHigh n) (orcCons 34 F_espalierref_unbyte (self_espalierref_unbyte) (orcNil))
omit [UTabs] in
theorem O_espalierref_unbyte_ok {ρ : Type} (self_espalierref_unbyte : ByteArray × Int × Unit → Option (Ev.Val × ByteArray × Bool × Unit)) (h_espalierref_unbyte : Contract Tryd.prog 34 F_espalierref_unbyte self_espalierref_unbyte) (n : Nat) : (O_espalierref_unbyte self_espalierref_unbyte n : Orc ρ).ok Tryd.prog := orcCons_ok (by kernel_rfl) (ok_espalierref_ofHigh n) (orcCons_ok (by kernel_rfl) (h_espalierref_unbyte) (orcNil_ok))
noncomputable def T_espalierref_unbyte_s1 : Tm := ⟨[(4, .ptr 4 0)], [(0, .str), (1, .i64), (87, .i64), (88, .i64)], [(4, .box [.d .i64, .d .i64, .d .str, .ref (.own 300163)]), (300163, .arr 27 .val)]⟩
noncomputable def X_espalierref_unbyte_s1 : Tm := ⟨[(4, .ptr 4 0)], [(0, .str)], [(4, .box [.d .i64, .d .i64, .d .str, .ref (.own 300163)]), (300163, .arr 27 .val)]⟩
noncomputable def R_espalierref_unbyte_s1 : Tm := ⟨[(4, .ptr 4 0)], [(5, .str), (6, .bool)], [(4, .box [.d .i64, .d .i64, .d .str, .ref (.own 300163)]), (300163, .arr 27 .val)]⟩
noncomputable def L_espalierref_unbyte_s1 {ρ : Type} (self_espalierref_unbyte : ByteArray × Int × Unit → Option (Ev.Val × ByteArray × Bool × Unit)) (n : Nat) : LOrc ρ := lorcNil
omit [Tabs] [UTabs] in
theorem s_espalierref_unbyte_s1 {ρ : Type} (self_espalierref_unbyte : ByteArray × Int × Unit → Option (Ev.Val × ByteArray × Bool × Unit)) (n : Nat) (rec : T_espalierref_unbyte_s1.den → Option ρ) kx kr s : dStep Tryd.prog 112 TT M_espalierref_unbyte (O_espalierref_unbyte self_espalierref_unbyte n) (L_espalierref_unbyte_s1 self_espalierref_unbyte n) (evDraw Tryd.prog 112 TT M_espalierref_unbyte (O_espalierref_unbyte self_espalierref_unbyte n)) 1 (lbody 1000 C_espalierref_unbyte 0) T_espalierref_unbyte_s1 X_espalierref_unbyte_s1 R_espalierref_unbyte_s1 ⟨[], [], [(4, 3, 300163, 27, 4)]⟩ rec kx kr s = espalierref_unbyte_s1 self_espalierref_unbyte n rec kx kr s := by kernel_rfl
noncomputable def L_espalierref_unbyte {ρ : Type} (self_espalierref_unbyte : ByteArray × Int × Unit → Option (Ev.Val × ByteArray × Bool × Unit)) (n : Nat) : LOrc ρ := lorcCons 1 (loopL 112 1 n T_espalierref_unbyte_s1 X_espalierref_unbyte_s1 R_espalierref_unbyte_s1 ⟨[], [], [(4, 3, 300163, 27, 4)]⟩ (espalierref_unbyte_s1 self_espalierref_unbyte n)) (lorcNil)
omit [Tabs] [UTabs] in
theorem e_espalierref_unbyte (self_espalierref_unbyte : ByteArray × Int × Unit → Option (Ev.Val × ByteArray × Bool × Unit)) (n : Nat) (x) : evF Tryd.prog 112 TT M_espalierref_unbyte F_espalierref_unbyte (O_espalierref_unbyte self_espalierref_unbyte n) (L_espalierref_unbyte self_espalierref_unbyte n) (evDraw Tryd.prog 112 TT M_espalierref_unbyte (O_espalierref_unbyte self_espalierref_unbyte n)) [.cell 4 27, .tmp 5, .tmp 6] C_espalierref_unbyte x = espalierref_unbyte_b self_espalierref_unbyte n x := by kernel_rfl
omit [UTabs] in
theorem okb_espalierref_unbyte (self_espalierref_unbyte : ByteArray × Int × Unit → Option (Ev.Val × ByteArray × Bool × Unit)) (h_espalierref_unbyte : Contract Tryd.prog 34 F_espalierref_unbyte self_espalierref_unbyte) (n : Nat) : Contract Tryd.prog 34 F_espalierref_unbyte (espalierref_unbyte_b self_espalierref_unbyte n) :=
  Contract.of_ev (c := C_espalierref_unbyte) (N := 112) Tryd.func34 (by kernel_rfl) (by kernel_rfl) (by kernel_rfl) (by kernel_rfl) (O_espalierref_unbyte_ok self_espalierref_unbyte h_espalierref_unbyte n) (evDraw_ok (O_espalierref_unbyte_ok self_espalierref_unbyte h_espalierref_unbyte n) (by kernel_rfl)) (.of (l := [(1, (lbody 1000 C_espalierref_unbyte 0))]) (by kernel_rfl) ⟨.head (loopL_sound (O_espalierref_unbyte_ok self_espalierref_unbyte h_espalierref_unbyte n) (evDraw_ok (O_espalierref_unbyte_ok self_espalierref_unbyte h_espalierref_unbyte n) (by kernel_rfl)) (.of (l := []) (by kernel_rfl) trivial) (s_espalierref_unbyte_s1 self_espalierref_unbyte n)), trivial⟩) (e_espalierref_unbyte self_espalierref_unbyte n)
omit [UTabs] in
theorem ok_espalierref_unbyte : ∀ n, Contract Tryd.prog 34 F_espalierref_unbyte (espalierref_unbyte n)
  | 0 => fun _ _ h => by cases h
  | n + 1 => okb_espalierref_unbyte _ (ok_espalierref_unbyte n) n

noncomputable def C_espalierref_CheckValue : Code := bodyOf Tryd.f23
noncomputable def F_espalierref_CheckValue : FnT := ⟨2, ⟨[], [(0, .val), (1, .i64)], []⟩, [.v .i64], []⟩
noncomputable def M_espalierref_CheckValue : List (Nat × ArgM) := []
noncomputable def O_espalierref_CheckValue {ρ : Type} (self_espalierref_CheckValue : Ev.Val × Int × Unit → Option (Int × Unit)) (n : Nat) : Orc ρ := orcCons 23 F_espalierref_CheckValue (self_espalierref_CheckValue) (orcCons 37 F_valid (validN) (orcNil))
theorem O_espalierref_CheckValue_ok {ρ : Type} (self_espalierref_CheckValue : Ev.Val × Int × Unit → Option (Int × Unit)) (h_espalierref_CheckValue : Contract Tryd.prog 23 F_espalierref_CheckValue self_espalierref_CheckValue) (n : Nat) : (O_espalierref_CheckValue self_espalierref_CheckValue n : Orc ρ).ok Tryd.prog := orcCons_ok (by kernel_rfl) (h_espalierref_CheckValue) (orcCons_ok (by kernel_rfl) (validN_ok) (orcNil_ok))
noncomputable def T_espalierref_CheckValue_s1 : Tm := ⟨[], [(1, .i64), (5, .bool), (6, .bool), (34, (.lst .val)), (35, .i64), (36, .i64)], []⟩
noncomputable def X_espalierref_CheckValue_s1 : Tm := ⟨[], [(5, .bool), (6, .bool)], []⟩
noncomputable def R_espalierref_CheckValue_s1 : Tm := ⟨[], [(4, .i64)], []⟩
noncomputable def L_espalierref_CheckValue_s1 {ρ : Type} (self_espalierref_CheckValue : Ev.Val × Int × Unit → Option (Int × Unit)) (n : Nat) : LOrc ρ := lorcNil
omit [Tabs] [UTabs] in
theorem s_espalierref_CheckValue_s1 {ρ : Type} (self_espalierref_CheckValue : Ev.Val × Int × Unit → Option (Int × Unit)) (n : Nat) (rec : T_espalierref_CheckValue_s1.den → Option ρ) kx kr s : dStep Tryd.prog 96 TT M_espalierref_CheckValue (O_espalierref_CheckValue self_espalierref_CheckValue n) (L_espalierref_CheckValue_s1 self_espalierref_CheckValue n) (evDraw Tryd.prog 96 TT M_espalierref_CheckValue (O_espalierref_CheckValue self_espalierref_CheckValue n)) 1 (lbody 1000 C_espalierref_CheckValue 0) T_espalierref_CheckValue_s1 X_espalierref_CheckValue_s1 R_espalierref_CheckValue_s1 ⟨[], [], []⟩ rec kx kr s = espalierref_CheckValue_s1 self_espalierref_CheckValue n rec kx kr s := by kernel_rfl
noncomputable def L_espalierref_CheckValue {ρ : Type} (self_espalierref_CheckValue : Ev.Val × Int × Unit → Option (Int × Unit)) (n : Nat) : LOrc ρ := lorcCons 1 (loopL 96 1 n T_espalierref_CheckValue_s1 X_espalierref_CheckValue_s1 R_espalierref_CheckValue_s1 ⟨[], [], []⟩ (espalierref_CheckValue_s1 self_espalierref_CheckValue n)) (lorcNil)
omit [Tabs] [UTabs] in
theorem e_espalierref_CheckValue (self_espalierref_CheckValue : Ev.Val × Int × Unit → Option (Int × Unit)) (n : Nat) (x) : evF Tryd.prog 96 TT M_espalierref_CheckValue F_espalierref_CheckValue (O_espalierref_CheckValue self_espalierref_CheckValue n) (L_espalierref_CheckValue self_espalierref_CheckValue n) (evDraw Tryd.prog 96 TT M_espalierref_CheckValue (O_espalierref_CheckValue self_espalierref_CheckValue n)) [.tmp 4] C_espalierref_CheckValue x = espalierref_CheckValue_b self_espalierref_CheckValue n x := by kernel_rfl
theorem okb_espalierref_CheckValue (self_espalierref_CheckValue : Ev.Val × Int × Unit → Option (Int × Unit)) (h_espalierref_CheckValue : Contract Tryd.prog 23 F_espalierref_CheckValue self_espalierref_CheckValue) (n : Nat) : Contract Tryd.prog 23 F_espalierref_CheckValue (espalierref_CheckValue_b self_espalierref_CheckValue n) :=
  Contract.of_ev (c := C_espalierref_CheckValue) (N := 96) Tryd.func23 (by kernel_rfl) (by kernel_rfl) (by kernel_rfl) (by kernel_rfl) (O_espalierref_CheckValue_ok self_espalierref_CheckValue h_espalierref_CheckValue n) (evDraw_ok (O_espalierref_CheckValue_ok self_espalierref_CheckValue h_espalierref_CheckValue n) (by kernel_rfl)) (.of (l := [(1, (lbody 1000 C_espalierref_CheckValue 0))]) (by kernel_rfl) ⟨.head (loopL_sound (O_espalierref_CheckValue_ok self_espalierref_CheckValue h_espalierref_CheckValue n) (evDraw_ok (O_espalierref_CheckValue_ok self_espalierref_CheckValue h_espalierref_CheckValue n) (by kernel_rfl)) (.of (l := []) (by kernel_rfl) trivial) (s_espalierref_CheckValue_s1 self_espalierref_CheckValue n)), trivial⟩) (e_espalierref_CheckValue self_espalierref_CheckValue n)
theorem ok_espalierref_CheckValue : ∀ n, Contract Tryd.prog 23 F_espalierref_CheckValue (espalierref_CheckValue n)
  | 0 => fun _ _ h => by cases h
  | n + 1 => okb_espalierref_CheckValue _ (ok_espalierref_CheckValue n) n

noncomputable def C_espalierref_Right : Code := bodyOf Tryd.f35
noncomputable def F_espalierref_Right : FnT := ⟨1, ⟨[], [(0, .val)], []⟩, [.v .bool], []⟩
noncomputable def M_espalierref_Right : List (Nat × ArgM) := []
noncomputable def O_espalierref_Right {ρ : Type} (n : Nat) : Orc ρ := orcCons 23 F_espalierref_CheckValue (espalierref_CheckValue n) (orcNil)
theorem O_espalierref_Right_ok {ρ : Type} (n : Nat) : (O_espalierref_Right n : Orc ρ).ok Tryd.prog := orcCons_ok (by kernel_rfl) (ok_espalierref_CheckValue n) (orcNil_ok)
noncomputable def L_espalierref_Right {ρ : Type} (n : Nat) : LOrc ρ := lorcNil
omit [Tabs] [UTabs] in
theorem e_espalierref_Right (n : Nat) (x) : evF Tryd.prog 6 TT M_espalierref_Right F_espalierref_Right (O_espalierref_Right n) (L_espalierref_Right n) dorcNil [.tmp 2] C_espalierref_Right x = espalierref_Right n x := by kernel_rfl
theorem ok_espalierref_Right (n : Nat) : Contract Tryd.prog 35 F_espalierref_Right (espalierref_Right n) :=
  Contract.of_ev (c := C_espalierref_Right) (N := 6) Tryd.func35 (by kernel_rfl) (by kernel_rfl) (by kernel_rfl) (by kernel_rfl) (O_espalierref_Right_ok n) dorcNil_ok (.of (l := []) (by kernel_rfl) trivial) (e_espalierref_Right n)

noncomputable def C_espalierref_LongOf : Code := bodyOf Tryd.f20
noncomputable def F_espalierref_LongOf : FnT := ⟨1, ⟨[], [(0, .str)], []⟩, [.v .val, .v .i64, .v .bool], []⟩
noncomputable def M_espalierref_LongOf : List (Nat × ArgM) := []
noncomputable def O_espalierref_LongOf {ρ : Type} (n : Nat) : Orc ρ := orcCons 34 F_espalierref_unbyte (espalierref_unbyte n) (orcCons 35 F_espalierref_Right (espalierref_Right n) (orcNil))
theorem O_espalierref_LongOf_ok {ρ : Type} (n : Nat) : (O_espalierref_LongOf n : Orc ρ).ok Tryd.prog := orcCons_ok (by kernel_rfl) (ok_espalierref_unbyte n) (orcCons_ok (by kernel_rfl) (ok_espalierref_Right n) (orcNil_ok))
noncomputable def L_espalierref_LongOf {ρ : Type} (n : Nat) : LOrc ρ := lorcNil
omit [Tabs] [UTabs] in
theorem e_espalierref_LongOf (n : Nat) (x) : evF Tryd.prog 28 TT M_espalierref_LongOf F_espalierref_LongOf (O_espalierref_LongOf n) (L_espalierref_LongOf n) dorcNil [.cell 2 27, .tmp 3, .tmp 4] C_espalierref_LongOf x = espalierref_LongOf n x := by kernel_rfl
theorem ok_espalierref_LongOf (n : Nat) : Contract Tryd.prog 20 F_espalierref_LongOf (espalierref_LongOf n) :=
  Contract.of_ev (c := C_espalierref_LongOf) (N := 28) Tryd.func20 (by kernel_rfl) (by kernel_rfl) (by kernel_rfl) (by kernel_rfl) (O_espalierref_LongOf_ok n) dorcNil_ok (.of (l := []) (by kernel_rfl) trivial) (e_espalierref_LongOf n)

noncomputable def C_espalierlaw_num : Code := bodyOf Tryd.f11
noncomputable def F_espalierlaw_num : FnT := ⟨1, ⟨[], [(0, .i64)], []⟩, [.v .val], []⟩
noncomputable def M_espalierlaw_num : List (Nat × ArgM) := []
noncomputable def O_espalierlaw_num {ρ : Type} : Orc ρ := orcNil
omit [UTabs] in
theorem O_espalierlaw_num_ok {ρ : Type} : (O_espalierlaw_num : Orc ρ).ok Tryd.prog := orcNil_ok
noncomputable def L_espalierlaw_num {ρ : Type} : LOrc ρ := lorcNil
omit [Tabs] [UTabs] in
theorem e_espalierlaw_num (x) : evF Tryd.prog 5 TT M_espalierlaw_num F_espalierlaw_num (O_espalierlaw_num) (L_espalierlaw_num) dorcNil [.cell 2 27] C_espalierlaw_num x = espalierlaw_num x := by kernel_rfl
omit [UTabs] in
theorem ok_espalierlaw_num : Contract Tryd.prog 11 F_espalierlaw_num (espalierlaw_num) :=
  Contract.of_ev (c := C_espalierlaw_num) (N := 5) Tryd.func11 (by kernel_rfl) (by kernel_rfl) (by kernel_rfl) (by kernel_rfl) (O_espalierlaw_num_ok) dorcNil_ok (.of (l := []) (by kernel_rfl) trivial) (e_espalierlaw_num)

noncomputable def C_code_number : Code := bodyOf Tryd.f27
noncomputable def F_code_number : FnT := ⟨3, ⟨[(0, .own 1000000)], [(1, .u64), (2, .i64)], [(1000000, .arr 5 .u8)]⟩, [.ref (.own 1000000)], [(1000000, .arr 5 .u8)]⟩
noncomputable def M_code_number : List (Nat × ArgM) := []
noncomputable def O_code_number {ρ : Type} (n : Nat) : Orc ρ := orcNil
omit [UTabs] in
theorem O_code_number_ok {ρ : Type} (n : Nat) : (O_code_number n : Orc ρ).ok Tryd.prog := orcNil_ok
noncomputable def T_code_number_s0 : Tm := ⟨[(0, .own 1000000)], [(1, .u64), (7, .i64)], [(1000000, .arr 5 .u8)]⟩
noncomputable def X_code_number_s0 : Tm := ⟨[(0, .own 1000000)], [], [(1000000, .arr 5 .u8)]⟩
noncomputable def R_code_number_s0 : Tm := ⟨[], [], []⟩
noncomputable def L_code_number_s0 {ρ : Type} (n : Nat) : LOrc ρ := lorcNil
omit [Tabs] [UTabs] in
theorem s_code_number_s0 {ρ : Type} (n : Nat) (rec : T_code_number_s0.den → Option ρ) kx kr s : dStep Tryd.prog 23 TT M_code_number (O_code_number n) (L_code_number_s0 n) dorcNil 0 (lbody 1000 C_code_number 0) T_code_number_s0 X_code_number_s0 R_code_number_s0 ⟨[], [(0, 0, 5, 1)], []⟩ rec kx kr s = code_number_s0 n rec kx kr s := by kernel_rfl
noncomputable def L_code_number {ρ : Type} (n : Nat) : LOrc ρ := lorcCons 0 (loopL 23 0 n T_code_number_s0 X_code_number_s0 R_code_number_s0 ⟨[], [(0, 0, 5, 1)], []⟩ (code_number_s0 n)) (lorcNil)
omit [Tabs] [UTabs] in
theorem e_code_number (n : Nat) (x) : evF Tryd.prog 23 TT M_code_number F_code_number (O_code_number n) (L_code_number n) dorcNil [.tmp 6] C_code_number x = code_number n x := by kernel_rfl
omit [UTabs] in
theorem ok_code_number (n : Nat) : Contract Tryd.prog 27 F_code_number (code_number n) :=
  Contract.of_ev (c := C_code_number) (N := 23) Tryd.func27 (by kernel_rfl) (by kernel_rfl) (by kernel_rfl) (by kernel_rfl) (O_code_number_ok n) dorcNil_ok (.of (l := [(0, (lbody 1000 C_code_number 0))]) (by kernel_rfl) ⟨.head (loopL_sound (O_code_number_ok n) dorcNil_ok (.of (l := []) (by kernel_rfl) trivial) (s_code_number_s0 n)), trivial⟩) (e_code_number n)

noncomputable def C_code_Put : Code := bodyOf Tryd.f26
noncomputable def F_code_Put : FnT := ⟨2, ⟨[(0, .own 1000000)], [(1, .val)], [(1000000, .arr 5 .u8)]⟩, [.ref (.own 1000000)], [(1000000, .arr 5 .u8)]⟩
noncomputable def M_code_Put : List (Nat × ArgM) := [(27, ⟨[0], [⟨0, 1000000, 5, 1⟩], []⟩), (26, ⟨[0], [⟨0, 1000000, 5, 1⟩], []⟩)]
noncomputable def O_code_Put {ρ : Type} (self_code_Put : Ev.Val × (List Int) × Unit → Option ((List Int) × Unit)) (n : Nat) : Orc ρ := orcCons 27 F_code_number (code_number n) (orcCons 26 F_code_Put (self_code_Put) (orcNil))
omit [UTabs] in
theorem O_code_Put_ok {ρ : Type} (self_code_Put : Ev.Val × (List Int) × Unit → Option ((List Int) × Unit)) (h_code_Put : Contract Tryd.prog 26 F_code_Put self_code_Put) (n : Nat) : (O_code_Put self_code_Put n : Orc ρ).ok Tryd.prog := orcCons_ok (by kernel_rfl) (ok_code_number n) (orcCons_ok (by kernel_rfl) (h_code_Put) (orcNil_ok))
noncomputable def T_code_Put_s1 : Tm := ⟨[(0, .own 1000000)], [(46, (.lst .val)), (47, .i64), (48, .i64)], [(1000000, .arr 5 .u8)]⟩
noncomputable def X_code_Put_s1 : Tm := ⟨[(0, .own 1000000)], [], [(1000000, .arr 5 .u8)]⟩
noncomputable def R_code_Put_s1 : Tm := ⟨[], [], []⟩
noncomputable def L_code_Put_s1 {ρ : Type} (self_code_Put : Ev.Val × (List Int) × Unit → Option ((List Int) × Unit)) (n : Nat) : LOrc ρ := lorcNil
omit [Tabs] [UTabs] in
theorem s_code_Put_s1 {ρ : Type} (self_code_Put : Ev.Val × (List Int) × Unit → Option ((List Int) × Unit)) (n : Nat) (rec : T_code_Put_s1.den → Option ρ) kx kr s : dStep Tryd.prog 57 TT M_code_Put (O_code_Put self_code_Put n) (L_code_Put_s1 self_code_Put n) dorcNil 1 (lbody 1000 C_code_Put 0) T_code_Put_s1 X_code_Put_s1 R_code_Put_s1 ⟨[], [], []⟩ rec kx kr s = code_Put_s1 self_code_Put n rec kx kr s := by kernel_rfl
noncomputable def L_code_Put {ρ : Type} (self_code_Put : Ev.Val × (List Int) × Unit → Option ((List Int) × Unit)) (n : Nat) : LOrc ρ := lorcCons 1 (loopL 57 1 n T_code_Put_s1 X_code_Put_s1 R_code_Put_s1 ⟨[], [], []⟩ (code_Put_s1 self_code_Put n)) (lorcNil)
omit [Tabs] [UTabs] in
theorem e_code_Put (self_code_Put : Ev.Val × (List Int) × Unit → Option ((List Int) × Unit)) (n : Nat) (x) : evF Tryd.prog 57 TT M_code_Put F_code_Put (O_code_Put self_code_Put n) (L_code_Put self_code_Put n) dorcNil [.tmp 4] C_code_Put x = code_Put_b self_code_Put n x := by kernel_rfl
omit [UTabs] in
theorem okb_code_Put (self_code_Put : Ev.Val × (List Int) × Unit → Option ((List Int) × Unit)) (h_code_Put : Contract Tryd.prog 26 F_code_Put self_code_Put) (n : Nat) : Contract Tryd.prog 26 F_code_Put (code_Put_b self_code_Put n) :=
  Contract.of_ev (c := C_code_Put) (N := 57) Tryd.func26 (by kernel_rfl) (by kernel_rfl) (by kernel_rfl) (by kernel_rfl) (O_code_Put_ok self_code_Put h_code_Put n) dorcNil_ok (.of (l := [(1, (lbody 1000 C_code_Put 0))]) (by kernel_rfl) ⟨.head (loopL_sound (O_code_Put_ok self_code_Put h_code_Put n) dorcNil_ok (.of (l := []) (by kernel_rfl) trivial) (s_code_Put_s1 self_code_Put n)), trivial⟩) (e_code_Put self_code_Put n)
omit [UTabs] in
theorem ok_code_Put : ∀ n, Contract Tryd.prog 26 F_code_Put (code_Put n)
  | 0 => fun _ _ h => by cases h
  | n + 1 => okb_code_Put _ (ok_code_Put n) n

noncomputable def C_code_Bytes : Code := bodyOf Tryd.f10
noncomputable def F_code_Bytes : FnT := ⟨1, ⟨[], [(0, .val)], []⟩, [.v .str, .v .i64], []⟩
noncomputable def M_code_Bytes : List (Nat × ArgM) := [(26, ⟨[0], [⟨0, 1000000, 5, 1⟩], []⟩)]
noncomputable def O_code_Bytes {ρ : Type} (n : Nat) : Orc ρ := orcCons 25 F_value_Check (value_Check n) (orcCons 26 F_code_Put (code_Put n) (orcNil))
theorem O_code_Bytes_ok {ρ : Type} (n : Nat) : (O_code_Bytes n : Orc ρ).ok Tryd.prog := orcCons_ok (by kernel_rfl) (ok_value_Check n) (orcCons_ok (by kernel_rfl) (ok_code_Put n) (orcNil_ok))
noncomputable def L_code_Bytes {ρ : Type} (n : Nat) : LOrc ρ := lorcNil
omit [Tabs] [UTabs] in
theorem e_code_Bytes (n : Nat) (x) : evF Tryd.prog 18 TT M_code_Bytes F_code_Bytes (O_code_Bytes n) (L_code_Bytes n) dorcNil [.tmp 2, .tmp 3] C_code_Bytes x = code_Bytes n x := by kernel_rfl
theorem ok_code_Bytes (n : Nat) : Contract Tryd.prog 10 F_code_Bytes (code_Bytes n) :=
  Contract.of_ev (c := C_code_Bytes) (N := 18) Tryd.func10 (by kernel_rfl) (by kernel_rfl) (by kernel_rfl) (by kernel_rfl) (O_code_Bytes_ok n) dorcNil_ok (.of (l := []) (by kernel_rfl) trivial) (e_code_Bytes n)

noncomputable def C_code_sum : Code := bodyOf Tryd.f28
noncomputable def F_code_sum : FnT := ⟨1, ⟨[], [(0, .str)], []⟩, [.v .u64], []⟩
noncomputable def M_code_sum : List (Nat × ArgM) := []
noncomputable def O_code_sum {ρ : Type} (n : Nat) : Orc ρ := orcNil
omit [UTabs] in
theorem O_code_sum_ok {ρ : Type} (n : Nat) : (O_code_sum n : Orc ρ).ok Tryd.prog := orcNil_ok
noncomputable def T_code_sum_s2 : Tm := ⟨[], [(0, .str), (3, .u32), (6, .i64), (7, .i64), (16, .i64)], []⟩
noncomputable def X_code_sum_s2 : Tm := ⟨[], [(0, .str), (3, .u32), (6, .i64), (7, .i64)], []⟩
noncomputable def R_code_sum_s2 : Tm := ⟨[], [], []⟩
noncomputable def L_code_sum_s2 {ρ : Type} (n : Nat) : LOrc ρ := lorcNil
omit [Tabs] [UTabs] in
theorem s_code_sum_s2 {ρ : Type} (n : Nat) (rec : T_code_sum_s2.den → Option ρ) kx kr s : dStep Tryd.prog 30 TT M_code_sum (O_code_sum n) (L_code_sum_s2 n) dorcNil 2 (lbody 0 (lbody 1000 C_code_sum 0) 0) T_code_sum_s2 X_code_sum_s2 R_code_sum_s2 ⟨[], [], []⟩ rec kx kr s = code_sum_s2 n rec kx kr s := by kernel_rfl
noncomputable def T_code_sum_s0 : Tm := ⟨[], [(0, .str), (3, .u32), (6, .i64), (7, .i64)], []⟩
noncomputable def X_code_sum_s0 : Tm := ⟨[], [(3, .u32)], []⟩
noncomputable def R_code_sum_s0 : Tm := ⟨[], [], []⟩
noncomputable def L_code_sum_s0 {ρ : Type} (n : Nat) : LOrc ρ := lorcCons 2 (loopL 30 2 n T_code_sum_s2 X_code_sum_s2 R_code_sum_s2 ⟨[], [], []⟩ (code_sum_s2 n)) (lorcNil)
omit [Tabs] [UTabs] in
theorem s_code_sum_s0 {ρ : Type} (n : Nat) (rec : T_code_sum_s0.den → Option ρ) kx kr s : dStep Tryd.prog 30 TT M_code_sum (O_code_sum n) (L_code_sum_s0 n) dorcNil 0 (lbody 1000 C_code_sum 0) T_code_sum_s0 X_code_sum_s0 R_code_sum_s0 ⟨[], [], []⟩ rec kx kr s = code_sum_s0 n rec kx kr s := by kernel_rfl
noncomputable def L_code_sum {ρ : Type} (n : Nat) : LOrc ρ := lorcCons 0 (loopL 30 0 n T_code_sum_s0 X_code_sum_s0 R_code_sum_s0 ⟨[], [], []⟩ (code_sum_s0 n)) (lorcNil)
omit [Tabs] [UTabs] in
theorem e_code_sum (n : Nat) (x) : evF Tryd.prog 30 TT M_code_sum F_code_sum (O_code_sum n) (L_code_sum n) dorcNil [.tmp 2] C_code_sum x = code_sum n x := by kernel_rfl
omit [UTabs] in
theorem ok_code_sum (n : Nat) : Contract Tryd.prog 28 F_code_sum (code_sum n) :=
  Contract.of_ev (c := C_code_sum) (N := 30) Tryd.func28 (by kernel_rfl) (by kernel_rfl) (by kernel_rfl) (by kernel_rfl) (O_code_sum_ok n) dorcNil_ok (.of (l := [(0, (lbody 1000 C_code_sum 0))]) (by kernel_rfl) ⟨.head (loopL_sound (O_code_sum_ok n) dorcNil_ok (.of (l := [(2, (lbody 0 (lbody 1000 C_code_sum 0) 0))]) (by kernel_rfl) ⟨.head (loopL_sound (O_code_sum_ok n) dorcNil_ok (.of (l := []) (by kernel_rfl) trivial) (s_code_sum_s2 n)), trivial⟩) (s_code_sum_s0 n)), trivial⟩) (e_code_sum n)

noncomputable def C_code_Frame : Code := bodyOf Tryd.f13
noncomputable def F_code_Frame : FnT := ⟨1, ⟨[], [(0, .str)], []⟩, [.v .str, .v .i64], []⟩
noncomputable def M_code_Frame : List (Nat × ArgM) := [(27, ⟨[0], [⟨0, 1000000, 5, 1⟩], []⟩)]
noncomputable def O_code_Frame {ρ : Type} (n : Nat) : Orc ρ := orcCons 27 F_code_number (code_number n) (orcCons 28 F_code_sum (code_sum n) (orcNil))
omit [UTabs] in
theorem O_code_Frame_ok {ρ : Type} (n : Nat) : (O_code_Frame n : Orc ρ).ok Tryd.prog := orcCons_ok (by kernel_rfl) (ok_code_number n) (orcCons_ok (by kernel_rfl) (ok_code_sum n) (orcNil_ok))
noncomputable def L_code_Frame {ρ : Type} (n : Nat) : LOrc ρ := lorcNil
omit [Tabs] [UTabs] in
theorem e_code_Frame (n : Nat) (x) : evF Tryd.prog 19 TT M_code_Frame F_code_Frame (O_code_Frame n) (L_code_Frame n) dorcNil [.tmp 2, .tmp 3] C_code_Frame x = code_Frame n x := by kernel_rfl
omit [UTabs] in
theorem ok_code_Frame (n : Nat) : Contract Tryd.prog 13 F_code_Frame (code_Frame n) :=
  Contract.of_ev (c := C_code_Frame) (N := 19) Tryd.func13 (by kernel_rfl) (by kernel_rfl) (by kernel_rfl) (by kernel_rfl) (O_code_Frame_ok n) dorcNil_ok (.of (l := []) (by kernel_rfl) trivial) (e_code_Frame n)

noncomputable def C_espalierlaw_coded : Code := bodyOf Tryd.f12
noncomputable def F_espalierlaw_coded : FnT := ⟨0, ⟨[], [], []⟩, [.v .bool], []⟩
noncomputable def M_espalierlaw_coded : List (Nat × ArgM) := []
noncomputable def O_espalierlaw_coded {ρ : Type} (n : Nat) : Orc ρ := orcCons 11 F_espalierlaw_num (espalierlaw_num) (orcCons 10 F_code_Bytes (code_Bytes n) (orcCons 13 F_code_Frame (code_Frame n) (orcNil)))
theorem O_espalierlaw_coded_ok {ρ : Type} (n : Nat) : (O_espalierlaw_coded n : Orc ρ).ok Tryd.prog := orcCons_ok (by kernel_rfl) (ok_espalierlaw_num) (orcCons_ok (by kernel_rfl) (ok_code_Bytes n) (orcCons_ok (by kernel_rfl) (ok_code_Frame n) (orcNil_ok)))
noncomputable def L_espalierlaw_coded {ρ : Type} (n : Nat) : LOrc ρ := lorcNil
omit [Tabs] [UTabs] in
theorem e_espalierlaw_coded (n : Nat) (x) : evF Tryd.prog 28 TT M_espalierlaw_coded F_espalierlaw_coded (O_espalierlaw_coded n) (L_espalierlaw_coded n) dorcNil [.tmp 0] C_espalierlaw_coded x = espalierlaw_coded n x := by kernel_rfl
theorem ok_espalierlaw_coded (n : Nat) : Contract Tryd.prog 12 F_espalierlaw_coded (espalierlaw_coded n) :=
  Contract.of_ev (c := C_espalierlaw_coded) (N := 28) Tryd.func12 (by kernel_rfl) (by kernel_rfl) (by kernel_rfl) (by kernel_rfl) (O_espalierlaw_coded_ok n) dorcNil_ok (.of (l := []) (by kernel_rfl) trivial) (e_espalierlaw_coded n)

noncomputable def C_bytes_Compare : Code := bodyOf Tryd.f43
noncomputable def F_bytes_Compare : FnT := ⟨2, ⟨[], [(0, (.lst .u8)), (1, (.lst .u8))], []⟩, [.v .i64], []⟩
noncomputable def M_bytes_Compare : List (Nat × ArgM) := []
noncomputable def O_bytes_Compare {ρ : Type} : Orc ρ := orcCons 47 T_cmpB (cmpN) (orcNil)
omit [UTabs] in
theorem O_bytes_Compare_ok {ρ : Type} : (O_bytes_Compare : Orc ρ).ok Tryd.prog := orcExt_ok (by kernel_rfl) (cmp_ok) (orcNil_ok)
noncomputable def L_bytes_Compare {ρ : Type} : LOrc ρ := lorcNil
omit [Tabs] [UTabs] in
theorem e_bytes_Compare (x) : evF Tryd.prog 8 TT M_bytes_Compare F_bytes_Compare (O_bytes_Compare) (L_bytes_Compare) dorcNil [.tmp 4] C_bytes_Compare x = bytes_Compare x := by kernel_rfl
omit [UTabs] in
theorem ok_bytes_Compare : Contract Tryd.prog 43 F_bytes_Compare (bytes_Compare) :=
  Contract.of_ev (c := C_bytes_Compare) (N := 8) Tryd.func43 (by kernel_rfl) (by kernel_rfl) (by kernel_rfl) (by kernel_rfl) (O_bytes_Compare_ok) dorcNil_ok (.of (l := []) (by kernel_rfl) trivial) (e_bytes_Compare)

noncomputable def C_espalierref_OrderOf : Code := bodyOf Tryd.f36
noncomputable def F_espalierref_OrderOf : FnT := ⟨2, ⟨[], [(0, .val), (1, .val)], []⟩, [.v .i64], []⟩
noncomputable def M_espalierref_OrderOf : List (Nat × ArgM) := []
noncomputable def O_espalierref_OrderOf {ρ : Type} (self_espalierref_OrderOf : Ev.Val × Ev.Val × Unit → Option (Int × Unit)) (n : Nat) : Orc ρ := orcCons 43 F_bytes_Compare (bytes_Compare) (orcCons 36 F_espalierref_OrderOf (self_espalierref_OrderOf) (orcNil))
omit [UTabs] in
theorem O_espalierref_OrderOf_ok {ρ : Type} (self_espalierref_OrderOf : Ev.Val × Ev.Val × Unit → Option (Int × Unit)) (h_espalierref_OrderOf : Contract Tryd.prog 36 F_espalierref_OrderOf self_espalierref_OrderOf) (n : Nat) : (O_espalierref_OrderOf self_espalierref_OrderOf n : Orc ρ).ok Tryd.prog := orcCons_ok (by kernel_rfl) (ok_bytes_Compare) (orcCons_ok (by kernel_rfl) (h_espalierref_OrderOf) (orcNil_ok))
noncomputable def T_espalierref_OrderOf_s1 : Tm := ⟨[(2, .ptr 2 0), (3, .ptr 3 0)], [(5, .i64)], [(2, .box [.d .val]), (3, .box [.d .val])]⟩
noncomputable def X_espalierref_OrderOf_s1 : Tm := ⟨[(2, .ptr 2 0), (3, .ptr 3 0)], [], [(2, .box [.d .val]), (3, .box [.d .val])]⟩
noncomputable def R_espalierref_OrderOf_s1 : Tm := ⟨[], [(4, .i64)], []⟩
noncomputable def L_espalierref_OrderOf_s1 {ρ : Type} (self_espalierref_OrderOf : Ev.Val × Ev.Val × Unit → Option (Int × Unit)) (n : Nat) : LOrc ρ := lorcNil
omit [Tabs] [UTabs] in
theorem s_espalierref_OrderOf_s1 {ρ : Type} (self_espalierref_OrderOf : Ev.Val × Ev.Val × Unit → Option (Int × Unit)) (n : Nat) (rec : T_espalierref_OrderOf_s1.den → Option ρ) kx kr s : dStep Tryd.prog 88 TT M_espalierref_OrderOf (O_espalierref_OrderOf self_espalierref_OrderOf n) (L_espalierref_OrderOf_s1 self_espalierref_OrderOf n) (evDraw Tryd.prog 88 TT M_espalierref_OrderOf (O_espalierref_OrderOf self_espalierref_OrderOf n)) 1 (lbody 1000 C_espalierref_OrderOf 0) T_espalierref_OrderOf_s1 X_espalierref_OrderOf_s1 R_espalierref_OrderOf_s1 ⟨[], [], []⟩ rec kx kr s = espalierref_OrderOf_s1 self_espalierref_OrderOf n rec kx kr s := by kernel_rfl
noncomputable def L_espalierref_OrderOf {ρ : Type} (self_espalierref_OrderOf : Ev.Val × Ev.Val × Unit → Option (Int × Unit)) (n : Nat) : LOrc ρ := lorcCons 1 (loopL 88 1 n T_espalierref_OrderOf_s1 X_espalierref_OrderOf_s1 R_espalierref_OrderOf_s1 ⟨[], [], []⟩ (espalierref_OrderOf_s1 self_espalierref_OrderOf n)) (lorcNil)
omit [Tabs] [UTabs] in
theorem e_espalierref_OrderOf (self_espalierref_OrderOf : Ev.Val × Ev.Val × Unit → Option (Int × Unit)) (n : Nat) (x) : evF Tryd.prog 88 TT M_espalierref_OrderOf F_espalierref_OrderOf (O_espalierref_OrderOf self_espalierref_OrderOf n) (L_espalierref_OrderOf self_espalierref_OrderOf n) (evDraw Tryd.prog 88 TT M_espalierref_OrderOf (O_espalierref_OrderOf self_espalierref_OrderOf n)) [.tmp 4] C_espalierref_OrderOf x = espalierref_OrderOf_b self_espalierref_OrderOf n x := by kernel_rfl
omit [UTabs] in
theorem okb_espalierref_OrderOf (self_espalierref_OrderOf : Ev.Val × Ev.Val × Unit → Option (Int × Unit)) (h_espalierref_OrderOf : Contract Tryd.prog 36 F_espalierref_OrderOf self_espalierref_OrderOf) (n : Nat) : Contract Tryd.prog 36 F_espalierref_OrderOf (espalierref_OrderOf_b self_espalierref_OrderOf n) :=
  Contract.of_ev (c := C_espalierref_OrderOf) (N := 88) Tryd.func36 (by kernel_rfl) (by kernel_rfl) (by kernel_rfl) (by kernel_rfl) (O_espalierref_OrderOf_ok self_espalierref_OrderOf h_espalierref_OrderOf n) (evDraw_ok (O_espalierref_OrderOf_ok self_espalierref_OrderOf h_espalierref_OrderOf n) (by kernel_rfl)) (.of (l := [(1, (lbody 1000 C_espalierref_OrderOf 0))]) (by kernel_rfl) ⟨.head (loopL_sound (O_espalierref_OrderOf_ok self_espalierref_OrderOf h_espalierref_OrderOf n) (evDraw_ok (O_espalierref_OrderOf_ok self_espalierref_OrderOf h_espalierref_OrderOf n) (by kernel_rfl)) (.of (l := []) (by kernel_rfl) trivial) (s_espalierref_OrderOf_s1 self_espalierref_OrderOf n)), trivial⟩) (e_espalierref_OrderOf self_espalierref_OrderOf n)
omit [UTabs] in
theorem ok_espalierref_OrderOf : ∀ n, Contract Tryd.prog 36 F_espalierref_OrderOf (espalierref_OrderOf n)
  | 0 => fun _ _ h => by cases h
  | n + 1 => okb_espalierref_OrderOf _ (ok_espalierref_OrderOf n) n

noncomputable def C_espalierref_SameValue : Code := bodyOf Tryd.f22
noncomputable def F_espalierref_SameValue : FnT := ⟨2, ⟨[], [(0, .val), (1, .val)], []⟩, [.v .bool], []⟩
noncomputable def M_espalierref_SameValue : List (Nat × ArgM) := []
noncomputable def O_espalierref_SameValue {ρ : Type} (n : Nat) : Orc ρ := orcCons 36 F_espalierref_OrderOf (espalierref_OrderOf n) (orcNil)
omit [UTabs] in
theorem O_espalierref_SameValue_ok {ρ : Type} (n : Nat) : (O_espalierref_SameValue n : Orc ρ).ok Tryd.prog := orcCons_ok (by kernel_rfl) (ok_espalierref_OrderOf n) (orcNil_ok)
noncomputable def L_espalierref_SameValue {ρ : Type} (n : Nat) : LOrc ρ := lorcNil
omit [Tabs] [UTabs] in
theorem e_espalierref_SameValue (n : Nat) (x) : evF Tryd.prog 9 TT M_espalierref_SameValue F_espalierref_SameValue (O_espalierref_SameValue n) (L_espalierref_SameValue n) dorcNil [.tmp 4] C_espalierref_SameValue x = espalierref_SameValue n x := by kernel_rfl
omit [UTabs] in
theorem ok_espalierref_SameValue (n : Nat) : Contract Tryd.prog 22 F_espalierref_SameValue (espalierref_SameValue n) :=
  Contract.of_ev (c := C_espalierref_SameValue) (N := 9) Tryd.func22 (by kernel_rfl) (by kernel_rfl) (by kernel_rfl) (by kernel_rfl) (O_espalierref_SameValue_ok n) dorcNil_ok (.of (l := []) (by kernel_rfl) trivial) (e_espalierref_SameValue n)

noncomputable def C_espalierlaw_none : Code := bodyOf Tryd.f21
noncomputable def F_espalierlaw_none : FnT := ⟨1, ⟨[], [(0, .val)], []⟩, [.v .bool], []⟩
noncomputable def M_espalierlaw_none : List (Nat × ArgM) := []
noncomputable def O_espalierlaw_none {ρ : Type} (n : Nat) : Orc ρ := orcCons 22 F_espalierref_SameValue (espalierref_SameValue n) (orcNil)
omit [UTabs] in
theorem O_espalierlaw_none_ok {ρ : Type} (n : Nat) : (O_espalierlaw_none n : Orc ρ).ok Tryd.prog := orcCons_ok (by kernel_rfl) (ok_espalierref_SameValue n) (orcNil_ok)
noncomputable def L_espalierlaw_none {ρ : Type} (n : Nat) : LOrc ρ := lorcNil
omit [Tabs] [UTabs] in
theorem e_espalierlaw_none (n : Nat) (x) : evF Tryd.prog 6 TT M_espalierlaw_none F_espalierlaw_none (O_espalierlaw_none n) (L_espalierlaw_none n) dorcNil [.tmp 2] C_espalierlaw_none x = espalierlaw_none n x := by kernel_rfl
omit [UTabs] in
theorem ok_espalierlaw_none (n : Nat) : Contract Tryd.prog 21 F_espalierlaw_none (espalierlaw_none n) :=
  Contract.of_ev (c := C_espalierlaw_none) (N := 6) Tryd.func21 (by kernel_rfl) (by kernel_rfl) (by kernel_rfl) (by kernel_rfl) (O_espalierlaw_none_ok n) dorcNil_ok (.of (l := []) (by kernel_rfl) trivial) (e_espalierlaw_none n)

noncomputable def C_espalierlaw_CodeValue : Code := bodyOf Tryd.f6
noncomputable def F_espalierlaw_CodeValue : FnT := ⟨1, ⟨[], [(0, .str)], []⟩, [.v .bool], []⟩
noncomputable def M_espalierlaw_CodeValue : List (Nat × ArgM) := []
noncomputable def O_espalierlaw_CodeValue {ρ : Type} (n : Nat) : Orc ρ := orcCons 18 F_code_Value (code_Value n) (orcCons 19 F_code_Long (code_Long n) (orcCons 20 F_espalierref_LongOf (espalierref_LongOf n) (orcCons 12 F_espalierlaw_coded (espalierlaw_coded n) (orcCons 21 F_espalierlaw_none (espalierlaw_none n) (orcCons 22 F_espalierref_SameValue (espalierref_SameValue n) (orcNil))))))
theorem O_espalierlaw_CodeValue_ok {ρ : Type} (n : Nat) : (O_espalierlaw_CodeValue n : Orc ρ).ok Tryd.prog := orcCons_ok (by kernel_rfl) (ok_code_Value n) (orcCons_ok (by kernel_rfl) (ok_code_Long n) (orcCons_ok (by kernel_rfl) (ok_espalierref_LongOf n) (orcCons_ok (by kernel_rfl) (ok_espalierlaw_coded n) (orcCons_ok (by kernel_rfl) (ok_espalierlaw_none n) (orcCons_ok (by kernel_rfl) (ok_espalierref_SameValue n) (orcNil_ok))))))
noncomputable def L_espalierlaw_CodeValue {ρ : Type} (n : Nat) : LOrc ρ := lorcNil
omit [Tabs] [UTabs] in
theorem e_espalierlaw_CodeValue (n : Nat) (x) : evF Tryd.prog 68 TT M_espalierlaw_CodeValue F_espalierlaw_CodeValue (O_espalierlaw_CodeValue n) (L_espalierlaw_CodeValue n) dorcNil [.tmp 2] C_espalierlaw_CodeValue x = espalierlaw_CodeValue n x := by kernel_rfl
theorem ok_espalierlaw_CodeValue (n : Nat) : Contract Tryd.prog 6 F_espalierlaw_CodeValue (espalierlaw_CodeValue n) :=
  Contract.of_ev (c := C_espalierlaw_CodeValue) (N := 68) Tryd.func6 (by kernel_rfl) (by kernel_rfl) (by kernel_rfl) (by kernel_rfl) (O_espalierlaw_CodeValue_ok n) dorcNil_ok (.of (l := []) (by kernel_rfl) trivial) (e_espalierlaw_CodeValue n)

noncomputable def C_espalierlaw_CodeBack : Code := bodyOf Tryd.f7
noncomputable def F_espalierlaw_CodeBack : FnT := ⟨2, ⟨[], [(0, .val), (1, .str)], []⟩, [.v .bool], []⟩
noncomputable def M_espalierlaw_CodeBack : List (Nat × ArgM) := []
noncomputable def O_espalierlaw_CodeBack {ρ : Type} (n : Nat) : Orc ρ := orcCons 10 F_code_Bytes (code_Bytes n) (orcCons 12 F_espalierlaw_coded (espalierlaw_coded n) (orcCons 18 F_code_Value (code_Value n) (orcCons 19 F_code_Long (code_Long n) (orcCons 22 F_espalierref_SameValue (espalierref_SameValue n) (orcNil)))))
theorem O_espalierlaw_CodeBack_ok {ρ : Type} (n : Nat) : (O_espalierlaw_CodeBack n : Orc ρ).ok Tryd.prog := orcCons_ok (by kernel_rfl) (ok_code_Bytes n) (orcCons_ok (by kernel_rfl) (ok_espalierlaw_coded n) (orcCons_ok (by kernel_rfl) (ok_code_Value n) (orcCons_ok (by kernel_rfl) (ok_code_Long n) (orcCons_ok (by kernel_rfl) (ok_espalierref_SameValue n) (orcNil_ok)))))
noncomputable def L_espalierlaw_CodeBack {ρ : Type} (n : Nat) : LOrc ρ := lorcNil
omit [Tabs] [UTabs] in
theorem e_espalierlaw_CodeBack (n : Nat) (x) : evF Tryd.prog 50 TT M_espalierlaw_CodeBack F_espalierlaw_CodeBack (O_espalierlaw_CodeBack n) (L_espalierlaw_CodeBack n) dorcNil [.tmp 4] C_espalierlaw_CodeBack x = espalierlaw_CodeBack n x := by kernel_rfl
theorem ok_espalierlaw_CodeBack (n : Nat) : Contract Tryd.prog 7 F_espalierlaw_CodeBack (espalierlaw_CodeBack n) :=
  Contract.of_ev (c := C_espalierlaw_CodeBack) (N := 50) Tryd.func7 (by kernel_rfl) (by kernel_rfl) (by kernel_rfl) (by kernel_rfl) (O_espalierlaw_CodeBack_ok n) dorcNil_ok (.of (l := []) (by kernel_rfl) trivial) (e_espalierlaw_CodeBack n)

noncomputable def C_espalierlaw_CodeSplits : Code := bodyOf Tryd.f8
noncomputable def F_espalierlaw_CodeSplits : FnT := ⟨1, ⟨[], [(0, (.lst .val))], []⟩, [.v .bool], []⟩
noncomputable def M_espalierlaw_CodeSplits : List (Nat × ArgM) := []
noncomputable def O_espalierlaw_CodeSplits {ρ : Type} (n : Nat) : Orc ρ := orcCons 10 F_code_Bytes (code_Bytes n) (orcCons 19 F_code_Long (code_Long n) (orcCons 18 F_code_Value (code_Value n) (orcCons 22 F_espalierref_SameValue (espalierref_SameValue n) (orcCons 12 F_espalierlaw_coded (espalierlaw_coded n) (orcNil)))))
theorem O_espalierlaw_CodeSplits_ok {ρ : Type} (n : Nat) : (O_espalierlaw_CodeSplits n : Orc ρ).ok Tryd.prog := orcCons_ok (by kernel_rfl) (ok_code_Bytes n) (orcCons_ok (by kernel_rfl) (ok_code_Long n) (orcCons_ok (by kernel_rfl) (ok_code_Value n) (orcCons_ok (by kernel_rfl) (ok_espalierref_SameValue n) (orcCons_ok (by kernel_rfl) (ok_espalierlaw_coded n) (orcNil_ok)))))
noncomputable def T_espalierlaw_CodeSplits_s0 : Tm := ⟨[(4, .own 4)], [(3, .str), (15, (.lst .val)), (16, .i64), (17, .i64)], [(4, .arr 27 .val)]⟩
noncomputable def X_espalierlaw_CodeSplits_s0 : Tm := ⟨[(4, .own 4)], [(3, .str)], [(4, .arr 27 .val)]⟩
noncomputable def R_espalierlaw_CodeSplits_s0 : Tm := ⟨[], [], []⟩
noncomputable def L_espalierlaw_CodeSplits_s0 {ρ : Type} (n : Nat) : LOrc ρ := lorcNil
omit [Tabs] [UTabs] in
theorem s_espalierlaw_CodeSplits_s0 {ρ : Type} (n : Nat) (rec : T_espalierlaw_CodeSplits_s0.den → Option ρ) kx kr s : dStep Tryd.prog 84 TT M_espalierlaw_CodeSplits (O_espalierlaw_CodeSplits n) (L_espalierlaw_CodeSplits_s0 n) dorcNil 0 (lbody 1000 C_espalierlaw_CodeSplits 0) T_espalierlaw_CodeSplits_s0 X_espalierlaw_CodeSplits_s0 R_espalierlaw_CodeSplits_s0 ⟨[], [(4, 4, 27, 4)], []⟩ rec kx kr s = espalierlaw_CodeSplits_s0 n rec kx kr s := by kernel_rfl
noncomputable def T_espalierlaw_CodeSplits_s2 : Tm := ⟨[], [(3, .str), (41, (.lst .val)), (42, .i64), (43, .i64)], []⟩
noncomputable def X_espalierlaw_CodeSplits_s2 : Tm := ⟨[], [(3, .str)], []⟩
noncomputable def R_espalierlaw_CodeSplits_s2 : Tm := ⟨[], [(2, .bool)], []⟩
noncomputable def L_espalierlaw_CodeSplits_s2 {ρ : Type} (n : Nat) : LOrc ρ := lorcNil
omit [Tabs] [UTabs] in
theorem s_espalierlaw_CodeSplits_s2 {ρ : Type} (n : Nat) (rec : T_espalierlaw_CodeSplits_s2.den → Option ρ) kx kr s : dStep Tryd.prog 84 TT M_espalierlaw_CodeSplits (O_espalierlaw_CodeSplits n) (L_espalierlaw_CodeSplits_s2 n) dorcNil 2 (lbody 1000 C_espalierlaw_CodeSplits 1) T_espalierlaw_CodeSplits_s2 X_espalierlaw_CodeSplits_s2 R_espalierlaw_CodeSplits_s2 ⟨[4], [], []⟩ rec kx kr s = espalierlaw_CodeSplits_s2 n rec kx kr s := by kernel_rfl
noncomputable def L_espalierlaw_CodeSplits {ρ : Type} (n : Nat) : LOrc ρ := lorcCons 0 (loopL 84 0 n T_espalierlaw_CodeSplits_s0 X_espalierlaw_CodeSplits_s0 R_espalierlaw_CodeSplits_s0 ⟨[], [(4, 4, 27, 4)], []⟩ (espalierlaw_CodeSplits_s0 n)) (lorcCons 2 (loopL 84 2 n T_espalierlaw_CodeSplits_s2 X_espalierlaw_CodeSplits_s2 R_espalierlaw_CodeSplits_s2 ⟨[4], [], []⟩ (espalierlaw_CodeSplits_s2 n)) (lorcNil))
omit [Tabs] [UTabs] in
theorem e_espalierlaw_CodeSplits (n : Nat) (x) : evF Tryd.prog 84 TT M_espalierlaw_CodeSplits F_espalierlaw_CodeSplits (O_espalierlaw_CodeSplits n) (L_espalierlaw_CodeSplits n) dorcNil [.tmp 2] C_espalierlaw_CodeSplits x = espalierlaw_CodeSplits n x := by kernel_rfl
theorem ok_espalierlaw_CodeSplits (n : Nat) : Contract Tryd.prog 8 F_espalierlaw_CodeSplits (espalierlaw_CodeSplits n) :=
  Contract.of_ev (c := C_espalierlaw_CodeSplits) (N := 84) Tryd.func8 (by kernel_rfl) (by kernel_rfl) (by kernel_rfl) (by kernel_rfl) (O_espalierlaw_CodeSplits_ok n) dorcNil_ok (.of (l := [(0, (lbody 1000 C_espalierlaw_CodeSplits 0)), (2, (lbody 1000 C_espalierlaw_CodeSplits 1))]) (by kernel_rfl) ⟨.head (loopL_sound (O_espalierlaw_CodeSplits_ok n) dorcNil_ok (.of (l := []) (by kernel_rfl) trivial) (s_espalierlaw_CodeSplits_s0 n)), ⟨.tail rfl (.head (loopL_sound (O_espalierlaw_CodeSplits_ok n) dorcNil_ok (.of (l := []) (by kernel_rfl) trivial) (s_espalierlaw_CodeSplits_s2 n))), trivial⟩⟩) (e_espalierlaw_CodeSplits n)

noncomputable def C_code_Frames : Code := bodyOf Tryd.f14
noncomputable def F_code_Frames : FnT := ⟨1, ⟨[], [(0, .str)], []⟩, [.v (.lst .str), .v .i64, .v .i64], []⟩
noncomputable def M_code_Frames : List (Nat × ArgM) := []
noncomputable def O_code_Frames {ρ : Type} (n : Nat) : Orc ρ := orcCons 29 F_code_numberOf (code_numberOf n) (orcCons 28 F_code_sum (code_sum n) (orcNil))
omit [UTabs] in
theorem O_code_Frames_ok {ρ : Type} (n : Nat) : (O_code_Frames n : Orc ρ).ok Tryd.prog := orcCons_ok (by kernel_rfl) (ok_code_numberOf n) (orcCons_ok (by kernel_rfl) (ok_code_sum n) (orcNil_ok))
noncomputable def T_code_Frames_s0 : Tm := ⟨[(2, .own 2)], [(0, .str), (3, .i64)], [(2, .arr 9 .str)]⟩
noncomputable def X_code_Frames_s0 : Tm := ⟨[], [], []⟩
noncomputable def R_code_Frames_s0 : Tm := ⟨[(2, .own 2)], [(3, .i64), (4, .i64)], [(2, .arr 9 .str)]⟩
noncomputable def L_code_Frames_s0 {ρ : Type} (n : Nat) : LOrc ρ := lorcNil
omit [Tabs] [UTabs] in
theorem s_code_Frames_s0 {ρ : Type} (n : Nat) (rec : T_code_Frames_s0.den → Option ρ) kx kr s : dStep Tryd.prog 63 TT M_code_Frames (O_code_Frames n) (L_code_Frames_s0 n) (evDraw Tryd.prog 63 TT M_code_Frames (O_code_Frames n)) 0 (lbody 1000 C_code_Frames 0) T_code_Frames_s0 X_code_Frames_s0 R_code_Frames_s0 ⟨[], [(2, 2, 9, 1)], []⟩ rec kx kr s = code_Frames_s0 n rec kx kr s := by kernel_rfl
noncomputable def L_code_Frames {ρ : Type} (n : Nat) : LOrc ρ := lorcCons 0 (loopL 63 0 n T_code_Frames_s0 X_code_Frames_s0 R_code_Frames_s0 ⟨[], [(2, 2, 9, 1)], []⟩ (code_Frames_s0 n)) (lorcNil)
omit [Tabs] [UTabs] in
theorem e_code_Frames (n : Nat) (x) : evF Tryd.prog 63 TT M_code_Frames F_code_Frames (O_code_Frames n) (L_code_Frames n) (evDraw Tryd.prog 63 TT M_code_Frames (O_code_Frames n)) [.tmp 2, .tmp 3, .tmp 4] C_code_Frames x = code_Frames n x := by kernel_rfl
omit [UTabs] in
theorem ok_code_Frames (n : Nat) : Contract Tryd.prog 14 F_code_Frames (code_Frames n) :=
  Contract.of_ev (c := C_code_Frames) (N := 63) Tryd.func14 (by kernel_rfl) (by kernel_rfl) (by kernel_rfl) (by kernel_rfl) (O_code_Frames_ok n) (evDraw_ok (O_code_Frames_ok n) (by kernel_rfl)) (.of (l := [(0, (lbody 1000 C_code_Frames 0))]) (by kernel_rfl) ⟨.head (loopL_sound (O_code_Frames_ok n) (evDraw_ok (O_code_Frames_ok n) (by kernel_rfl)) (.of (l := []) (by kernel_rfl) trivial) (s_code_Frames_s0 n)), trivial⟩) (e_code_Frames n)

noncomputable def C_espalierref_high : Code := bodyOf Tryd.f30
noncomputable def F_espalierref_high : FnT := ⟨2, ⟨[], [(0, .u64), (1, .i64)], []⟩, [.v .str], []⟩
noncomputable def M_espalierref_high : List (Nat × ArgM) := []
noncomputable def O_espalierref_high {ρ : Type} (n : Nat) : Orc ρ := orcNil
omit [UTabs] in
theorem O_espalierref_high_ok {ρ : Type} (n : Nat) : (O_espalierref_high n : Orc ρ).ok Tryd.prog := orcNil_ok
noncomputable def T_espalierref_high_s0 : Tm := ⟨[], [(0, .u64), (5, .str), (6, .i64), (7, .i64)], []⟩
noncomputable def X_espalierref_high_s0 : Tm := ⟨[], [(5, .str)], []⟩
noncomputable def R_espalierref_high_s0 : Tm := ⟨[], [], []⟩
noncomputable def L_espalierref_high_s0 {ρ : Type} (n : Nat) : LOrc ρ := lorcNil
omit [Tabs] [UTabs] in
theorem s_espalierref_high_s0 {ρ : Type} (n : Nat) (rec : T_espalierref_high_s0.den → Option ρ) kx kr s : dStep Tryd.prog 20 TT M_espalierref_high (O_espalierref_high n) (L_espalierref_high_s0 n) dorcNil 0 (lbody 1000 C_espalierref_high 0) T_espalierref_high_s0 X_espalierref_high_s0 R_espalierref_high_s0 ⟨[], [], []⟩ rec kx kr s = espalierref_high_s0 n rec kx kr s := by kernel_rfl
noncomputable def L_espalierref_high {ρ : Type} (n : Nat) : LOrc ρ := lorcCons 0 (loopL 20 0 n T_espalierref_high_s0 X_espalierref_high_s0 R_espalierref_high_s0 ⟨[], [], []⟩ (espalierref_high_s0 n)) (lorcNil)
omit [Tabs] [UTabs] in
theorem e_espalierref_high (n : Nat) (x) : evF Tryd.prog 20 TT M_espalierref_high F_espalierref_high (O_espalierref_high n) (L_espalierref_high n) dorcNil [.tmp 4] C_espalierref_high x = espalierref_high n x := by kernel_rfl
omit [UTabs] in
theorem ok_espalierref_high (n : Nat) : Contract Tryd.prog 30 F_espalierref_high (espalierref_high n) :=
  Contract.of_ev (c := C_espalierref_high) (N := 20) Tryd.func30 (by kernel_rfl) (by kernel_rfl) (by kernel_rfl) (by kernel_rfl) (O_espalierref_high_ok n) dorcNil_ok (.of (l := [(0, (lbody 1000 C_espalierref_high 0))]) (by kernel_rfl) ⟨.head (loopL_sound (O_espalierref_high_ok n) dorcNil_ok (.of (l := []) (by kernel_rfl) trivial) (s_espalierref_high_s0 n)), trivial⟩) (e_espalierref_high n)

noncomputable def C_espalierref_crcOf : Code := bodyOf Tryd.f31
noncomputable def F_espalierref_crcOf : FnT := ⟨1, ⟨[], [(0, .str)], []⟩, [.v .u32], []⟩
noncomputable def M_espalierref_crcOf : List (Nat × ArgM) := []
noncomputable def O_espalierref_crcOf {ρ : Type} (n : Nat) : Orc ρ := orcNil
omit [UTabs] in
theorem O_espalierref_crcOf_ok {ρ : Type} (n : Nat) : (O_espalierref_crcOf n : Orc ρ).ok Tryd.prog := orcNil_ok
noncomputable def T_espalierref_crcOf_s2 : Tm := ⟨[], [(0, .str), (3, .u32), (7, .i64), (8, .i64), (17, .i64)], []⟩
noncomputable def X_espalierref_crcOf_s2 : Tm := ⟨[], [(0, .str), (3, .u32), (7, .i64), (8, .i64)], []⟩
noncomputable def R_espalierref_crcOf_s2 : Tm := ⟨[], [], []⟩
noncomputable def L_espalierref_crcOf_s2 {ρ : Type} (n : Nat) : LOrc ρ := lorcNil
omit [Tabs] [UTabs] in
theorem s_espalierref_crcOf_s2 {ρ : Type} (n : Nat) (rec : T_espalierref_crcOf_s2.den → Option ρ) kx kr s : dStep Tryd.prog 31 TT M_espalierref_crcOf (O_espalierref_crcOf n) (L_espalierref_crcOf_s2 n) dorcNil 2 (lbody 0 (lbody 1000 C_espalierref_crcOf 0) 0) T_espalierref_crcOf_s2 X_espalierref_crcOf_s2 R_espalierref_crcOf_s2 ⟨[], [], []⟩ rec kx kr s = espalierref_crcOf_s2 n rec kx kr s := by kernel_rfl
noncomputable def T_espalierref_crcOf_s0 : Tm := ⟨[], [(0, .str), (3, .u32), (7, .i64), (8, .i64)], []⟩
noncomputable def X_espalierref_crcOf_s0 : Tm := ⟨[], [(3, .u32)], []⟩
noncomputable def R_espalierref_crcOf_s0 : Tm := ⟨[], [], []⟩
noncomputable def L_espalierref_crcOf_s0 {ρ : Type} (n : Nat) : LOrc ρ := lorcCons 2 (loopL 31 2 n T_espalierref_crcOf_s2 X_espalierref_crcOf_s2 R_espalierref_crcOf_s2 ⟨[], [], []⟩ (espalierref_crcOf_s2 n)) (lorcNil)
omit [Tabs] [UTabs] in
theorem s_espalierref_crcOf_s0 {ρ : Type} (n : Nat) (rec : T_espalierref_crcOf_s0.den → Option ρ) kx kr s : dStep Tryd.prog 31 TT M_espalierref_crcOf (O_espalierref_crcOf n) (L_espalierref_crcOf_s0 n) dorcNil 0 (lbody 1000 C_espalierref_crcOf 0) T_espalierref_crcOf_s0 X_espalierref_crcOf_s0 R_espalierref_crcOf_s0 ⟨[], [], []⟩ rec kx kr s = espalierref_crcOf_s0 n rec kx kr s := by kernel_rfl
noncomputable def L_espalierref_crcOf {ρ : Type} (n : Nat) : LOrc ρ := lorcCons 0 (loopL 31 0 n T_espalierref_crcOf_s0 X_espalierref_crcOf_s0 R_espalierref_crcOf_s0 ⟨[], [], []⟩ (espalierref_crcOf_s0 n)) (lorcNil)
omit [Tabs] [UTabs] in
theorem e_espalierref_crcOf (n : Nat) (x) : evF Tryd.prog 31 TT M_espalierref_crcOf F_espalierref_crcOf (O_espalierref_crcOf n) (L_espalierref_crcOf n) dorcNil [.tmp 2] C_espalierref_crcOf x = espalierref_crcOf n x := by kernel_rfl
omit [UTabs] in
theorem ok_espalierref_crcOf (n : Nat) : Contract Tryd.prog 31 F_espalierref_crcOf (espalierref_crcOf n) :=
  Contract.of_ev (c := C_espalierref_crcOf) (N := 31) Tryd.func31 (by kernel_rfl) (by kernel_rfl) (by kernel_rfl) (by kernel_rfl) (O_espalierref_crcOf_ok n) dorcNil_ok (.of (l := [(0, (lbody 1000 C_espalierref_crcOf 0))]) (by kernel_rfl) ⟨.head (loopL_sound (O_espalierref_crcOf_ok n) dorcNil_ok (.of (l := [(2, (lbody 0 (lbody 1000 C_espalierref_crcOf 0) 0))]) (by kernel_rfl) ⟨.head (loopL_sound (O_espalierref_crcOf_ok n) dorcNil_ok (.of (l := []) (by kernel_rfl) trivial) (s_espalierref_crcOf_s2 n)), trivial⟩) (s_espalierref_crcOf_s0 n)), trivial⟩) (e_espalierref_crcOf n)

noncomputable def C_espalierref_FrameOf : Code := bodyOf Tryd.f15
noncomputable def F_espalierref_FrameOf : FnT := ⟨1, ⟨[], [(0, .str)], []⟩, [.v .str], []⟩
noncomputable def M_espalierref_FrameOf : List (Nat × ArgM) := []
noncomputable def O_espalierref_FrameOf {ρ : Type} (n : Nat) : Orc ρ := orcCons 30 F_espalierref_high (espalierref_high n) (orcCons 31 F_espalierref_crcOf (espalierref_crcOf n) (orcNil))
omit [UTabs] in
theorem O_espalierref_FrameOf_ok {ρ : Type} (n : Nat) : (O_espalierref_FrameOf n : Orc ρ).ok Tryd.prog := orcCons_ok (by kernel_rfl) (ok_espalierref_high n) (orcCons_ok (by kernel_rfl) (ok_espalierref_crcOf n) (orcNil_ok))
noncomputable def L_espalierref_FrameOf {ρ : Type} (n : Nat) : LOrc ρ := lorcNil
omit [Tabs] [UTabs] in
theorem e_espalierref_FrameOf (n : Nat) (x) : evF Tryd.prog 14 TT M_espalierref_FrameOf F_espalierref_FrameOf (O_espalierref_FrameOf n) (L_espalierref_FrameOf n) dorcNil [.tmp 2] C_espalierref_FrameOf x = espalierref_FrameOf n x := by kernel_rfl
omit [UTabs] in
theorem ok_espalierref_FrameOf (n : Nat) : Contract Tryd.prog 15 F_espalierref_FrameOf (espalierref_FrameOf n) :=
  Contract.of_ev (c := C_espalierref_FrameOf) (N := 14) Tryd.func15 (by kernel_rfl) (by kernel_rfl) (by kernel_rfl) (by kernel_rfl) (O_espalierref_FrameOf_ok n) dorcNil_ok (.of (l := []) (by kernel_rfl) trivial) (e_espalierref_FrameOf n)

noncomputable def C_espalierref_FramesOf : Code := bodyOf Tryd.f16
noncomputable def F_espalierref_FramesOf : FnT := ⟨1, ⟨[], [(0, .str)], []⟩, [.v (.lst .str), .v .i64], []⟩
noncomputable def M_espalierref_FramesOf : List (Nat × ArgM) := []
noncomputable def O_espalierref_FramesOf {ρ : Type} (n : Nat) : Orc ρ := orcCons 32 F_espalierref_ofHigh (espalierref_ofHigh n) (orcCons 15 F_espalierref_FrameOf (espalierref_FrameOf n) (orcNil))
omit [UTabs] in
theorem O_espalierref_FramesOf_ok {ρ : Type} (n : Nat) : (O_espalierref_FramesOf n : Orc ρ).ok Tryd.prog := orcCons_ok (by kernel_rfl) (ok_espalierref_ofHigh n) (orcCons_ok (by kernel_rfl) (ok_espalierref_FrameOf n) (orcNil_ok))
noncomputable def T_espalierref_FramesOf_s0 : Tm := ⟨[(2, .own 2)], [(0, .str), (3, .i64), (4, .i64)], [(2, .arr 9 .str)]⟩
noncomputable def X_espalierref_FramesOf_s0 : Tm := ⟨[(2, .own 2)], [(3, .i64)], [(2, .arr 9 .str)]⟩
noncomputable def R_espalierref_FramesOf_s0 : Tm := ⟨[], [], []⟩
noncomputable def L_espalierref_FramesOf_s0 {ρ : Type} (n : Nat) : LOrc ρ := lorcNil
omit [Tabs] [UTabs] in
theorem s_espalierref_FramesOf_s0 {ρ : Type} (n : Nat) (rec : T_espalierref_FramesOf_s0.den → Option ρ) kx kr s : dStep Tryd.prog 71 TT M_espalierref_FramesOf (O_espalierref_FramesOf n) (L_espalierref_FramesOf_s0 n) (evDraw Tryd.prog 71 TT M_espalierref_FramesOf (O_espalierref_FramesOf n)) 0 (lbody 1000 C_espalierref_FramesOf 0) T_espalierref_FramesOf_s0 X_espalierref_FramesOf_s0 R_espalierref_FramesOf_s0 ⟨[], [(2, 2, 9, 1)], []⟩ rec kx kr s = espalierref_FramesOf_s0 n rec kx kr s := by kernel_rfl
noncomputable def L_espalierref_FramesOf {ρ : Type} (n : Nat) : LOrc ρ := lorcCons 0 (loopL 71 0 n T_espalierref_FramesOf_s0 X_espalierref_FramesOf_s0 R_espalierref_FramesOf_s0 ⟨[], [(2, 2, 9, 1)], []⟩ (espalierref_FramesOf_s0 n)) (lorcNil)
omit [Tabs] [UTabs] in
theorem e_espalierref_FramesOf (n : Nat) (x) : evF Tryd.prog 71 TT M_espalierref_FramesOf F_espalierref_FramesOf (O_espalierref_FramesOf n) (L_espalierref_FramesOf n) (evDraw Tryd.prog 71 TT M_espalierref_FramesOf (O_espalierref_FramesOf n)) [.tmp 2, .tmp 3] C_espalierref_FramesOf x = espalierref_FramesOf n x := by kernel_rfl
omit [UTabs] in
theorem ok_espalierref_FramesOf (n : Nat) : Contract Tryd.prog 16 F_espalierref_FramesOf (espalierref_FramesOf n) :=
  Contract.of_ev (c := C_espalierref_FramesOf) (N := 71) Tryd.func16 (by kernel_rfl) (by kernel_rfl) (by kernel_rfl) (by kernel_rfl) (O_espalierref_FramesOf_ok n) (evDraw_ok (O_espalierref_FramesOf_ok n) (by kernel_rfl)) (.of (l := [(0, (lbody 1000 C_espalierref_FramesOf 0))]) (by kernel_rfl) ⟨.head (loopL_sound (O_espalierref_FramesOf_ok n) (evDraw_ok (O_espalierref_FramesOf_ok n) (by kernel_rfl)) (.of (l := []) (by kernel_rfl) trivial) (s_espalierref_FramesOf_s0 n)), trivial⟩) (e_espalierref_FramesOf n)

noncomputable def C_slices_Equal_string_string : Code := bodyOf Tryd.f17
noncomputable def F_slices_Equal_string_string : FnT := ⟨2, ⟨[], [(0, (.lst .str)), (1, (.lst .str))], []⟩, [.v .bool], []⟩
noncomputable def M_slices_Equal_string_string : List (Nat × ArgM) := []
noncomputable def O_slices_Equal_string_string {ρ : Type} (n : Nat) : Orc ρ := orcNil
omit [UTabs] in
theorem O_slices_Equal_string_string_ok {ρ : Type} (n : Nat) : (O_slices_Equal_string_string n : Orc ρ).ok Tryd.prog := orcNil_ok
noncomputable def T_slices_Equal_string_string_s0 : Tm := ⟨[], [(0, (.lst .str)), (1, (.lst .str)), (12, .i64), (13, .i64)], []⟩
noncomputable def X_slices_Equal_string_string_s0 : Tm := ⟨[], [], []⟩
noncomputable def R_slices_Equal_string_string_s0 : Tm := ⟨[], [(4, .bool)], []⟩
noncomputable def L_slices_Equal_string_string_s0 {ρ : Type} (n : Nat) : LOrc ρ := lorcNil
omit [Tabs] [UTabs] in
theorem s_slices_Equal_string_string_s0 {ρ : Type} (n : Nat) (rec : T_slices_Equal_string_string_s0.den → Option ρ) kx kr s : dStep Tryd.prog 26 TT M_slices_Equal_string_string (O_slices_Equal_string_string n) (L_slices_Equal_string_string_s0 n) (evDraw Tryd.prog 26 TT M_slices_Equal_string_string (O_slices_Equal_string_string n)) 0 (lbody 1000 C_slices_Equal_string_string 0) T_slices_Equal_string_string_s0 X_slices_Equal_string_string_s0 R_slices_Equal_string_string_s0 ⟨[], [], []⟩ rec kx kr s = slices_Equal_string_string_s0 n rec kx kr s := by kernel_rfl
noncomputable def L_slices_Equal_string_string {ρ : Type} (n : Nat) : LOrc ρ := lorcCons 0 (loopL 26 0 n T_slices_Equal_string_string_s0 X_slices_Equal_string_string_s0 R_slices_Equal_string_string_s0 ⟨[], [], []⟩ (slices_Equal_string_string_s0 n)) (lorcNil)
omit [Tabs] [UTabs] in
theorem e_slices_Equal_string_string (n : Nat) (x) : evF Tryd.prog 26 TT M_slices_Equal_string_string F_slices_Equal_string_string (O_slices_Equal_string_string n) (L_slices_Equal_string_string n) (evDraw Tryd.prog 26 TT M_slices_Equal_string_string (O_slices_Equal_string_string n)) [.tmp 4] C_slices_Equal_string_string x = slices_Equal_string_string n x := by kernel_rfl
omit [UTabs] in
theorem ok_slices_Equal_string_string (n : Nat) : Contract Tryd.prog 17 F_slices_Equal_string_string (slices_Equal_string_string n) :=
  Contract.of_ev (c := C_slices_Equal_string_string) (N := 26) Tryd.func17 (by kernel_rfl) (by kernel_rfl) (by kernel_rfl) (by kernel_rfl) (O_slices_Equal_string_string_ok n) (evDraw_ok (O_slices_Equal_string_string_ok n) (by kernel_rfl)) (.of (l := [(0, (lbody 1000 C_slices_Equal_string_string 0))]) (by kernel_rfl) ⟨.head (loopL_sound (O_slices_Equal_string_string_ok n) (evDraw_ok (O_slices_Equal_string_string_ok n) (by kernel_rfl)) (.of (l := []) (by kernel_rfl) trivial) (s_slices_Equal_string_string_s0 n)), trivial⟩) (e_slices_Equal_string_string n)

noncomputable def C_espalierlaw_CodeFrame : Code := bodyOf Tryd.f5
noncomputable def F_espalierlaw_CodeFrame : FnT := ⟨2, ⟨[], [(0, .str), (1, .str)], []⟩, [.v .bool], []⟩
noncomputable def M_espalierlaw_CodeFrame : List (Nat × ArgM) := []
noncomputable def O_espalierlaw_CodeFrame {ρ : Type} (n : Nat) : Orc ρ := orcCons 13 F_code_Frame (code_Frame n) (orcCons 14 F_code_Frames (code_Frames n) (orcCons 12 F_espalierlaw_coded (espalierlaw_coded n) (orcCons 16 F_espalierref_FramesOf (espalierref_FramesOf n) (orcCons 17 F_slices_Equal_string_string (slices_Equal_string_string n) (orcCons 15 F_espalierref_FrameOf (espalierref_FrameOf n) (orcNil))))))
theorem O_espalierlaw_CodeFrame_ok {ρ : Type} (n : Nat) : (O_espalierlaw_CodeFrame n : Orc ρ).ok Tryd.prog := orcCons_ok (by kernel_rfl) (ok_code_Frame n) (orcCons_ok (by kernel_rfl) (ok_code_Frames n) (orcCons_ok (by kernel_rfl) (ok_espalierlaw_coded n) (orcCons_ok (by kernel_rfl) (ok_espalierref_FramesOf n) (orcCons_ok (by kernel_rfl) (ok_slices_Equal_string_string n) (orcCons_ok (by kernel_rfl) (ok_espalierref_FrameOf n) (orcNil_ok))))))
noncomputable def L_espalierlaw_CodeFrame {ρ : Type} (n : Nat) : LOrc ρ := lorcNil
omit [Tabs] [UTabs] in
theorem e_espalierlaw_CodeFrame (n : Nat) (x) : evF Tryd.prog 83 TT M_espalierlaw_CodeFrame F_espalierlaw_CodeFrame (O_espalierlaw_CodeFrame n) (L_espalierlaw_CodeFrame n) dorcNil [.tmp 4] C_espalierlaw_CodeFrame x = espalierlaw_CodeFrame n x := by kernel_rfl
theorem ok_espalierlaw_CodeFrame (n : Nat) : Contract Tryd.prog 5 F_espalierlaw_CodeFrame (espalierlaw_CodeFrame n) :=
  Contract.of_ev (c := C_espalierlaw_CodeFrame) (N := 83) Tryd.func5 (by kernel_rfl) (by kernel_rfl) (by kernel_rfl) (by kernel_rfl) (O_espalierlaw_CodeFrame_ok n) dorcNil_ok (.of (l := []) (by kernel_rfl) trivial) (e_espalierlaw_CodeFrame n)

noncomputable def C_espalierlaw_CodeInts : Code := bodyOf Tryd.f3
noncomputable def F_espalierlaw_CodeInts : FnT := ⟨2, ⟨[], [(0, .i64), (1, .i64)], []⟩, [.v .bool], []⟩
noncomputable def M_espalierlaw_CodeInts : List (Nat × ArgM) := []
noncomputable def O_espalierlaw_CodeInts {ρ : Type} (n : Nat) : Orc ρ := orcCons 11 F_espalierlaw_num (espalierlaw_num) (orcCons 10 F_code_Bytes (code_Bytes n) (orcCons 12 F_espalierlaw_coded (espalierlaw_coded n) (orcNil)))
theorem O_espalierlaw_CodeInts_ok {ρ : Type} (n : Nat) : (O_espalierlaw_CodeInts n : Orc ρ).ok Tryd.prog := orcCons_ok (by kernel_rfl) (ok_espalierlaw_num) (orcCons_ok (by kernel_rfl) (ok_code_Bytes n) (orcCons_ok (by kernel_rfl) (ok_espalierlaw_coded n) (orcNil_ok)))
noncomputable def L_espalierlaw_CodeInts {ρ : Type} (n : Nat) : LOrc ρ := lorcNil
omit [Tabs] [UTabs] in
theorem e_espalierlaw_CodeInts (n : Nat) (x) : evF Tryd.prog 48 TT M_espalierlaw_CodeInts F_espalierlaw_CodeInts (O_espalierlaw_CodeInts n) (L_espalierlaw_CodeInts n) dorcNil [.tmp 4] C_espalierlaw_CodeInts x = espalierlaw_CodeInts n x := by kernel_rfl
theorem ok_espalierlaw_CodeInts (n : Nat) : Contract Tryd.prog 3 F_espalierlaw_CodeInts (espalierlaw_CodeInts n) :=
  Contract.of_ev (c := C_espalierlaw_CodeInts) (N := 48) Tryd.func3 (by kernel_rfl) (by kernel_rfl) (by kernel_rfl) (by kernel_rfl) (O_espalierlaw_CodeInts_ok n) dorcNil_ok (.of (l := []) (by kernel_rfl) trivial) (e_espalierlaw_CodeInts n)

end Go.Proofs.YtdngaeekecbgpaaDoor

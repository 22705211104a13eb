/- Each of these functions computes what its plain function computes (written by gen.py). -/
import Derived.Test.YtohlmpgbpkeboaaDoorSBase
import Derived.KernelRfl
import Derived.Test.YtohlmpgbpkeboaaDoorEvDraw
import Derived.Test.YtohlmpgbpkeboaaDoorEvQuiet
import Derived.WalkKit
import Derived.Test.YtohlmpgbpkeboaaDoorPCode
namespace Go.Proofs.YtohlmpgbpkeboaaDoor
open Go Esp Ev Pure
set_option linter.unusedSimpArgs false
set_option linter.unusedVariables false
set_option maxRecDepth 100000
theorem quiet_34 (args : Array Value) (w : World) : (callFunc 34 args).run Tryd.prog w = .ok (.enter 34 args) w ∧ CallsD Tryd.prog 34 args .returning w fun e u w' => u = .returning ∧ (∃ v, e = .returned v) ∧ w' = w :=
  quiet_closure (fn := Tryd.f34) (by kernel_rfl) rfl (by kernel_rfl) (by kernel_rfl) (by kernel_rfl) (by kernel_rfl) args w
/-- the functions that may be put off -/
def okds : List FuncId := [34]
theorem quiets : ∀ g ∈ okds, ∀ (args : Array Value) (w : World), (callFunc g args).run Tryd.prog w = .ok (.enter g args) w ∧ CallsD Tryd.prog g args .returning w fun e u w' => u = .returning ∧ (∃ v, e = .returned v) ∧ w' = w := by
  intro g hg args w
  simp only [okds, List.mem_cons, List.not_mem_nil, or_false] at hg
  rcases hg with rfl
  · exact quiet_34 args w
variable [Tabs]
/-- what is put off -/
class UDef : Prop where
  ok : ∀ g ∈ ([34] : List Nat), g ∈ Tabs.okd
variable [QuietD Tryd.prog] [UDef] [UTabs]
def TT : List (TypeId × Ty) := [(2, .i64), (3, .i64), (4, .bool), (5, .u8), (6, .u8), (9, .str), (10, .str), (11, .str), (12, .u64), (21, .i32), (22, (.lst .val)), (24, .val), (29, .i64), (48, (.lst .u8)), (68, (.lst .i64)), (79, .u64), (88, .u64), (97, .u32), (98, .i64), (132, .u8), (133, .u8), (135, .i32), (136, .i32)]

noncomputable def F_pstrings_Builder_WriteString : FnT := ⟨2, ⟨[(0, .ptr 1000000 0)], [(1, .str)], [(1000000, .box [.ref (.pn 1000000), .ref (.own 1000001)] (some 53)), (1000001, .arr 5 .u8)]⟩, [.v .i64, .ref (.nili)], [(1000000, .box [.ref (.pn 1000000), .ref (.own 1000001)] (some 53)), (1000001, .arr 5 .u8)]⟩
noncomputable def C_pstrings_Builder_WriteString : Code := bodyOf Tryd.f44
noncomputable def M_pstrings_Builder_WriteString : List (Nat × ArgM) := [(55, ⟨[0], [], [], false⟩)]
instance : DfOk M_pstrings_Builder_WriteString := .none rfl
noncomputable def O_pstrings_Builder_WriteString {ρ : Type} : Orc ρ := orcCons 55 F_cc (copyCheckN) (orcNil)
omit [QuietD Tryd.prog] [UDef] [UTabs] in
theorem O_pstrings_Builder_WriteString_ok {ρ : Type} : (O_pstrings_Builder_WriteString : Orc ρ).ok Tryd.prog := orcCons_ok (by kernel_rfl) (copyCheckN_ok) (orcNil_ok)
noncomputable def L_pstrings_Builder_WriteString {ρ : Type} : LOrc ρ := lorcNil
omit [Tabs] [QuietD Tryd.prog] [UDef] [UTabs] in
theorem e_pstrings_Builder_WriteString (x) : evF Tryd.prog 19 TT M_pstrings_Builder_WriteString F_pstrings_Builder_WriteString (O_pstrings_Builder_WriteString) (L_pstrings_Builder_WriteString) dorcNil ⟨[], [], []⟩ [.tmp 4, .tmp 5] C_pstrings_Builder_WriteString x = pstrings_Builder_WriteString x := by kernel_rfl
omit [UDef] [UTabs] in
theorem ok_pstrings_Builder_WriteString : Contract Tryd.prog 44 F_pstrings_Builder_WriteString (pstrings_Builder_WriteString) :=
  Contract.of_ev (c := C_pstrings_Builder_WriteString) (N := 19) Tryd.func44 (by kernel_rfl) (by kernel_rfl) (by kernel_rfl) (by kernel_rfl) (O_pstrings_Builder_WriteString_ok) dorcNil_ok (.of (l := []) (by kernel_rfl) trivial) (e_pstrings_Builder_WriteString)

noncomputable def F_pstrings_Builder_WriteByte : FnT := ⟨2, ⟨[(0, .ptr 1000000 0)], [(1, .u8)], [(1000000, .box [.ref (.pn 1000000), .ref (.own 1000001)] (some 53)), (1000001, .arr 5 .u8)]⟩, [.ref (.nili)], [(1000000, .box [.ref (.pn 1000000), .ref (.own 1000001)] (some 53)), (1000001, .arr 5 .u8)]⟩
noncomputable def C_pstrings_Builder_WriteByte : Code := bodyOf Tryd.f47
noncomputable def M_pstrings_Builder_WriteByte : List (Nat × ArgM) := [(55, ⟨[0], [], [], false⟩)]
instance : DfOk M_pstrings_Builder_WriteByte := .none rfl
noncomputable def O_pstrings_Builder_WriteByte {ρ : Type} : Orc ρ := orcCons 55 F_cc (copyCheckN) (orcNil)
omit [QuietD Tryd.prog] [UDef] [UTabs] in
theorem O_pstrings_Builder_WriteByte_ok {ρ : Type} : (O_pstrings_Builder_WriteByte : Orc ρ).ok Tryd.prog := orcCons_ok (by kernel_rfl) (copyCheckN_ok) (orcNil_ok)
noncomputable def L_pstrings_Builder_WriteByte {ρ : Type} : LOrc ρ := lorcNil
omit [Tabs] [QuietD Tryd.prog] [UDef] [UTabs] in
theorem e_pstrings_Builder_WriteByte (x) : evF Tryd.prog 17 TT M_pstrings_Builder_WriteByte F_pstrings_Builder_WriteByte (O_pstrings_Builder_WriteByte) (L_pstrings_Builder_WriteByte) dorcNil ⟨[], [], []⟩ [.tmp 4] C_pstrings_Builder_WriteByte x = pstrings_Builder_WriteByte x := by kernel_rfl
omit [UDef] [UTabs] in
theorem ok_pstrings_Builder_WriteByte : Contract Tryd.prog 47 F_pstrings_Builder_WriteByte (pstrings_Builder_WriteByte) :=
  Contract.of_ev (c := C_pstrings_Builder_WriteByte) (N := 17) Tryd.func47 (by kernel_rfl) (by kernel_rfl) (by kernel_rfl) (by kernel_rfl) (O_pstrings_Builder_WriteByte_ok) dorcNil_ok (.of (l := []) (by kernel_rfl) trivial) (e_pstrings_Builder_WriteByte)

noncomputable def F_pstrings_Builder_Len : FnT := ⟨1, ⟨[(0, .ptr 1000000 0)], [], [(1000000, .box [.ref (.pn 1000000), .ref (.own 1000001)] (some 53)), (1000001, .arr 5 .u8)]⟩, [.v .i64], [(1000000, .box [.ref (.pn 1000000), .ref (.own 1000001)] (some 53)), (1000001, .arr 5 .u8)]⟩
noncomputable def C_pstrings_Builder_Len : Code := bodyOf Tryd.f32
noncomputable def M_pstrings_Builder_Len : List (Nat × ArgM) := []
instance : DfOk M_pstrings_Builder_Len := .none rfl
noncomputable def O_pstrings_Builder_Len {ρ : Type} : Orc ρ := orcNil
omit [QuietD Tryd.prog] [UDef] [UTabs] in
theorem O_pstrings_Builder_Len_ok {ρ : Type} : (O_pstrings_Builder_Len : Orc ρ).ok Tryd.prog := orcNil_ok
noncomputable def L_pstrings_Builder_Len {ρ : Type} : LOrc ρ := lorcNil
omit [Tabs] [QuietD Tryd.prog] [UDef] [UTabs] in
theorem e_pstrings_Builder_Len (x) : evF Tryd.prog 8 TT M_pstrings_Builder_Len F_pstrings_Builder_Len (O_pstrings_Builder_Len) (L_pstrings_Builder_Len) dorcNil ⟨[], [], []⟩ [.tmp 2] C_pstrings_Builder_Len x = pstrings_Builder_Len x := by kernel_rfl
omit [UDef] [UTabs] in
theorem ok_pstrings_Builder_Len : Contract Tryd.prog 32 F_pstrings_Builder_Len (pstrings_Builder_Len) :=
  Contract.of_ev (c := C_pstrings_Builder_Len) (N := 8) Tryd.func32 (by kernel_rfl) (by kernel_rfl) (by kernel_rfl) (by kernel_rfl) (O_pstrings_Builder_Len_ok) dorcNil_ok (.of (l := []) (by kernel_rfl) trivial) (e_pstrings_Builder_Len)

noncomputable def F_unicode_utf8_AppendRune : FnT := ⟨2, ⟨[(0, .own 1000000)], [(1, .i32)], [(1000000, .arr 5 .u8)]⟩, [.ref (.own 1000000)], [(1000000, .arr 5 .u8)]⟩
noncomputable def F_unicode_utf8_appendRuneNonASCII : FnT := ⟨2, ⟨[(0, .own 1000000)], [(1, .i32)], [(1000000, .arr 5 .u8)]⟩, [.ref (.own 1000000)], [(1000000, .arr 5 .u8)]⟩
noncomputable def C_unicode_utf8_appendRuneNonASCII : Code := bodyOf Tryd.f65
noncomputable def M_unicode_utf8_appendRuneNonASCII : List (Nat × ArgM) := []
instance : DfOk M_unicode_utf8_appendRuneNonASCII := .none rfl
noncomputable def O_unicode_utf8_appendRuneNonASCII {ρ : Type} : Orc ρ := orcNil
omit [QuietD Tryd.prog] [UDef] [UTabs] in
theorem O_unicode_utf8_appendRuneNonASCII_ok {ρ : Type} : (O_unicode_utf8_appendRuneNonASCII : Orc ρ).ok Tryd.prog := orcNil_ok
noncomputable def L_unicode_utf8_appendRuneNonASCII {ρ : Type} : LOrc ρ := lorcNil
omit [Tabs] [QuietD Tryd.prog] [UDef] [UTabs] in
theorem e_unicode_utf8_appendRuneNonASCII (x) : evF Tryd.prog 78 TT M_unicode_utf8_appendRuneNonASCII F_unicode_utf8_appendRuneNonASCII (O_unicode_utf8_appendRuneNonASCII) (L_unicode_utf8_appendRuneNonASCII) dorcNil ⟨[], [], []⟩ [.tmp 4] C_unicode_utf8_appendRuneNonASCII x = unicode_utf8_appendRuneNonASCII x := by kernel_rfl
omit [UDef] [UTabs] in
theorem ok_unicode_utf8_appendRuneNonASCII : Contract Tryd.prog 65 F_unicode_utf8_appendRuneNonASCII (unicode_utf8_appendRuneNonASCII) :=
  Contract.of_ev (c := C_unicode_utf8_appendRuneNonASCII) (N := 78) Tryd.func65 (by kernel_rfl) (by kernel_rfl) (by kernel_rfl) (by kernel_rfl) (O_unicode_utf8_appendRuneNonASCII_ok) dorcNil_ok (.of (l := []) (by kernel_rfl) trivial) (e_unicode_utf8_appendRuneNonASCII)

noncomputable def C_unicode_utf8_AppendRune : Code := bodyOf Tryd.f58
noncomputable def M_unicode_utf8_AppendRune : List (Nat × ArgM) := [(65, ⟨[0], [⟨0, 1000000, 5, 1⟩], [], false⟩)]
instance : DfOk M_unicode_utf8_AppendRune := .none rfl
noncomputable def O_unicode_utf8_AppendRune {ρ : Type} : Orc ρ := orcCons 65 F_unicode_utf8_appendRuneNonASCII (unicode_utf8_appendRuneNonASCII) (orcNil)
omit [UDef] [UTabs] in
theorem O_unicode_utf8_AppendRune_ok {ρ : Type} : (O_unicode_utf8_AppendRune : Orc ρ).ok Tryd.prog := orcCons_ok (by kernel_rfl) (ok_unicode_utf8_appendRuneNonASCII) (orcNil_ok)
noncomputable def L_unicode_utf8_AppendRune {ρ : Type} : LOrc ρ := lorcNil
omit [Tabs] [QuietD Tryd.prog] [UDef] [UTabs] in
theorem e_unicode_utf8_AppendRune (x) : evF Tryd.prog 16 TT M_unicode_utf8_AppendRune F_unicode_utf8_AppendRune (O_unicode_utf8_AppendRune) (L_unicode_utf8_AppendRune) dorcNil ⟨[], [], []⟩ [.tmp 4] C_unicode_utf8_AppendRune x = unicode_utf8_AppendRune x := by kernel_rfl
omit [UDef] [UTabs] in
theorem ok_unicode_utf8_AppendRune : Contract Tryd.prog 58 F_unicode_utf8_AppendRune (unicode_utf8_AppendRune) :=
  Contract.of_ev (c := C_unicode_utf8_AppendRune) (N := 16) Tryd.func58 (by kernel_rfl) (by kernel_rfl) (by kernel_rfl) (by kernel_rfl) (O_unicode_utf8_AppendRune_ok) dorcNil_ok (.of (l := []) (by kernel_rfl) trivial) (e_unicode_utf8_AppendRune)

noncomputable def F_pstrings_Builder_WriteRune : FnT := ⟨2, ⟨[(0, .ptr 1000000 0)], [(1, .i32)], [(1000000, .box [.ref (.pn 1000000), .ref (.own 1000001)] (some 53)), (1000001, .arr 5 .u8)]⟩, [.v .i64, .ref (.nili)], [(1000000, .box [.ref (.pn 1000000), .ref (.own 1000001)] (some 53)), (1000001, .arr 5 .u8)]⟩
noncomputable def C_pstrings_Builder_WriteRune : Code := bodyOf Tryd.f48
noncomputable def M_pstrings_Builder_WriteRune : List (Nat × ArgM) := [(55, ⟨[0], [], [], false⟩), (58, ⟨[0], [⟨0, 1000000, 5, 1⟩], [], false⟩)]
instance : DfOk M_pstrings_Builder_WriteRune := .none rfl
noncomputable def O_pstrings_Builder_WriteRune {ρ : Type} : Orc ρ := orcCons 55 F_cc (copyCheckN) (orcCons 58 F_unicode_utf8_AppendRune (unicode_utf8_AppendRune) (orcNil))
omit [UDef] [UTabs] in
theorem O_pstrings_Builder_WriteRune_ok {ρ : Type} : (O_pstrings_Builder_WriteRune : Orc ρ).ok Tryd.prog := orcCons_ok (by kernel_rfl) (copyCheckN_ok) (orcCons_ok (by kernel_rfl) (ok_unicode_utf8_AppendRune) (orcNil_ok))
noncomputable def L_pstrings_Builder_WriteRune {ρ : Type} : LOrc ρ := lorcNil
omit [Tabs] [QuietD Tryd.prog] [UDef] [UTabs] in
theorem e_pstrings_Builder_WriteRune (x) : evF Tryd.prog 30 TT M_pstrings_Builder_WriteRune F_pstrings_Builder_WriteRune (O_pstrings_Builder_WriteRune) (L_pstrings_Builder_WriteRune) dorcNil ⟨[], [], []⟩ [.tmp 4, .tmp 5] C_pstrings_Builder_WriteRune x = pstrings_Builder_WriteRune x := by kernel_rfl
omit [UDef] [UTabs] in
theorem ok_pstrings_Builder_WriteRune : Contract Tryd.prog 48 F_pstrings_Builder_WriteRune (pstrings_Builder_WriteRune) :=
  Contract.of_ev (c := C_pstrings_Builder_WriteRune) (N := 30) Tryd.func48 (by kernel_rfl) (by kernel_rfl) (by kernel_rfl) (by kernel_rfl) (O_pstrings_Builder_WriteRune_ok) dorcNil_ok (.of (l := []) (by kernel_rfl) trivial) (e_pstrings_Builder_WriteRune)

noncomputable def F_strconv_FormatBool : FnT := ⟨1, ⟨[], [(0, .bool)], []⟩, [.v .str], []⟩
noncomputable def F_internal_strconv_FormatBool : FnT := ⟨1, ⟨[], [(0, .bool)], []⟩, [.v .str], []⟩
noncomputable def C_internal_strconv_FormatBool : Code := bodyOf Tryd.f56
noncomputable def M_internal_strconv_FormatBool : List (Nat × ArgM) := []
instance : DfOk M_internal_strconv_FormatBool := .none rfl
noncomputable def O_internal_strconv_FormatBool {ρ : Type} : Orc ρ := orcNil
omit [QuietD Tryd.prog] [UDef] [UTabs] in
theorem O_internal_strconv_FormatBool_ok {ρ : Type} : (O_internal_strconv_FormatBool : Orc ρ).ok Tryd.prog := orcNil_ok
noncomputable def L_internal_strconv_FormatBool {ρ : Type} : LOrc ρ := lorcNil
omit [Tabs] [QuietD Tryd.prog] [UDef] [UTabs] in
theorem e_internal_strconv_FormatBool (x) : evF Tryd.prog 4 TT M_internal_strconv_FormatBool F_internal_strconv_FormatBool (O_internal_strconv_FormatBool) (L_internal_strconv_FormatBool) dorcNil ⟨[], [], []⟩ [.tmp 2] C_internal_strconv_FormatBool x = internal_strconv_FormatBool x := by kernel_rfl
omit [UDef] [UTabs] in
theorem ok_internal_strconv_FormatBool : Contract Tryd.prog 56 F_internal_strconv_FormatBool (internal_strconv_FormatBool) :=
  Contract.of_ev (c := C_internal_strconv_FormatBool) (N := 4) Tryd.func56 (by kernel_rfl) (by kernel_rfl) (by kernel_rfl) (by kernel_rfl) (O_internal_strconv_FormatBool_ok) dorcNil_ok (.of (l := []) (by kernel_rfl) trivial) (e_internal_strconv_FormatBool)

noncomputable def C_strconv_FormatBool : Code := bodyOf Tryd.f45
noncomputable def M_strconv_FormatBool : List (Nat × ArgM) := [(56, ⟨[], [], [], true⟩)]
instance : DfOk M_strconv_FormatBool := .none rfl
noncomputable def O_strconv_FormatBool {ρ : Type} : Orc ρ := orcCons 56 F_internal_strconv_FormatBool (internal_strconv_FormatBool) (orcNil)
omit [UDef] [UTabs] in
theorem O_strconv_FormatBool_ok {ρ : Type} : (O_strconv_FormatBool : Orc ρ).ok Tryd.prog := orcCons_ok (by kernel_rfl) (ok_internal_strconv_FormatBool) (orcNil_ok)
noncomputable def L_strconv_FormatBool {ρ : Type} : LOrc ρ := lorcNil
omit [Tabs] [QuietD Tryd.prog] [UDef] [UTabs] in
theorem e_strconv_FormatBool (x) : evF Tryd.prog 5 TT M_strconv_FormatBool F_strconv_FormatBool (O_strconv_FormatBool) (L_strconv_FormatBool) dorcNil ⟨[], [], []⟩ [.tmp 2] C_strconv_FormatBool x = strconv_FormatBool x := by kernel_rfl
omit [UDef] [UTabs] in
theorem ok_strconv_FormatBool : Contract Tryd.prog 45 F_strconv_FormatBool (strconv_FormatBool) :=
  Contract.of_ev (c := C_strconv_FormatBool) (N := 5) Tryd.func45 (by kernel_rfl) (by kernel_rfl) (by kernel_rfl) (by kernel_rfl) (O_strconv_FormatBool_ok) dorcNil_ok (.of (l := []) (by kernel_rfl) trivial) (e_strconv_FormatBool)

noncomputable def F_value_tell : FnT := ⟨2, ⟨[(0, .ptr 1000000 0)], [(1, .val)], [(1000000, .box [.ref (.pn 1000000), .ref (.own 1000001)] (some 53)), (1000001, .arr 5 .u8)]⟩, [], [(1000000, .box [.ref (.pn 1000000), .ref (.own 1000001)] (some 53)), (1000001, .arr 5 .u8)]⟩
noncomputable def C_value_tell : Code := bodyOf Tryd.f31
noncomputable def M_value_tell : List (Nat × ArgM) := [(44, ⟨[0], [], [], false⟩), (47, ⟨[0], [], [], false⟩), (48, ⟨[0], [], [], false⟩), (31, ⟨[0], [], [], false⟩), (45, ⟨[], [], [], true⟩), (46, ⟨[], [], [], true⟩)]
instance : DfOk M_value_tell := .none rfl
noncomputable def O_value_tell {ρ : Type} (self_value_tell : Ev.Val × Unit × (List Int) × Unit → Option (Unit × (List Int) × Unit)) (n : Nat) : Orc ρ := orcCons 44 F_pstrings_Builder_WriteString (pstrings_Builder_WriteString) (orcCons 45 F_strconv_FormatBool (strconv_FormatBool) (orcCons 46 F_itoa (itoaN) (orcCons 47 F_pstrings_Builder_WriteByte (pstrings_Builder_WriteByte) (orcCons 48 F_pstrings_Builder_WriteRune (pstrings_Builder_WriteRune) (orcCons 31 F_value_tell (self_value_tell) (orcNil))))))
omit [UDef] in
theorem O_value_tell_ok {ρ : Type} (self_value_tell : Ev.Val × Unit × (List Int) × Unit → Option (Unit × (List Int) × Unit)) (h_value_tell : Contract Tryd.prog 31 F_value_tell self_value_tell) (n : Nat) : (O_value_tell self_value_tell n : Orc ρ).ok Tryd.prog := orcCons_ok (by kernel_rfl) (ok_pstrings_Builder_WriteString) (orcCons_ok (by kernel_rfl) (ok_strconv_FormatBool) (orcCons_ok (by kernel_rfl) (itoaN_ok) (orcCons_ok (by kernel_rfl) (ok_pstrings_Builder_WriteByte) (orcCons_ok (by kernel_rfl) (ok_pstrings_Builder_WriteRune) (orcCons_ok (by kernel_rfl) (h_value_tell) (orcNil_ok))))))
noncomputable def T_value_tell_s1 : Tm := ⟨[(0, .ptr 1000000 0), (35, .ptr 35 0)], [], [(35, .it), (1000000, .box [.ref (.pn 1000000), .ref (.own 1000001)] (some 53)), (1000001, .arr 5 .u8)]⟩
noncomputable def X_value_tell_s1 : Tm := ⟨[(0, .ptr 1000000 0)], [], [(1000000, .box [.ref (.pn 1000000), .ref (.own 1000001)] (some 53)), (1000001, .arr 5 .u8)]⟩
noncomputable def R_value_tell_s1 : Tm := ⟨[], [], []⟩
noncomputable def L_value_tell_s1 {ρ : Type} (self_value_tell : Ev.Val × Unit × (List Int) × Unit → Option (Unit × (List Int) × Unit)) (n : Nat) : LOrc ρ := lorcNil
omit [Tabs] [QuietD Tryd.prog] [UDef] [UTabs] in
theorem s_value_tell_s1 {ρ : Type} (self_value_tell : Ev.Val × Unit × (List Int) × Unit → Option (Unit × (List Int) × Unit)) (n : Nat) (rec : T_value_tell_s1.den → Option ρ) kx kr s : dStep Tryd.prog 76 TT M_value_tell (O_value_tell self_value_tell n) (L_value_tell_s1 self_value_tell n) dorcNil 1 (lbody 1000 C_value_tell 0) T_value_tell_s1 X_value_tell_s1 R_value_tell_s1 ⟨[], [], []⟩ rec kx kr s = value_tell_s1 self_value_tell n rec kx kr s := by kernel_rfl
noncomputable def T_value_tell_s4 : Tm := ⟨[(0, .ptr 1000000 0)], [(59, (.lst .val)), (60, .i64), (61, .i64)], [(1000000, .box [.ref (.pn 1000000), .ref (.own 1000001)] (some 53)), (1000001, .arr 5 .u8)]⟩
noncomputable def X_value_tell_s4 : Tm := ⟨[(0, .ptr 1000000 0)], [], [(1000000, .box [.ref (.pn 1000000), .ref (.own 1000001)] (some 53)), (1000001, .arr 5 .u8)]⟩
noncomputable def R_value_tell_s4 : Tm := ⟨[], [], []⟩
noncomputable def L_value_tell_s4 {ρ : Type} (self_value_tell : Ev.Val × Unit × (List Int) × Unit → Option (Unit × (List Int) × Unit)) (n : Nat) : LOrc ρ := lorcNil
omit [Tabs] [QuietD Tryd.prog] [UDef] [UTabs] in
theorem s_value_tell_s4 {ρ : Type} (self_value_tell : Ev.Val × Unit × (List Int) × Unit → Option (Unit × (List Int) × Unit)) (n : Nat) (rec : T_value_tell_s4.den → Option ρ) kx kr s : dStep Tryd.prog 76 TT M_value_tell (O_value_tell self_value_tell n) (L_value_tell_s4 self_value_tell n) dorcNil 4 (lbody 1000 C_value_tell 1) T_value_tell_s4 X_value_tell_s4 R_value_tell_s4 ⟨[], [], []⟩ rec kx kr s = value_tell_s4 self_value_tell n rec kx kr s := by kernel_rfl
noncomputable def L_value_tell {ρ : Type} (self_value_tell : Ev.Val × Unit × (List Int) × Unit → Option (Unit × (List Int) × Unit)) (n : Nat) : LOrc ρ := lorcCons 1 (loopL 76 1 n T_value_tell_s1 X_value_tell_s1 R_value_tell_s1 ⟨[], [], []⟩ (value_tell_s1 self_value_tell n)) (lorcCons 4 (loopL 76 4 n T_value_tell_s4 X_value_tell_s4 R_value_tell_s4 ⟨[], [], []⟩ (value_tell_s4 self_value_tell n)) (lorcNil))
omit [Tabs] [QuietD Tryd.prog] [UDef] [UTabs] in
theorem e_value_tell (self_value_tell : Ev.Val × Unit × (List Int) × Unit → Option (Unit × (List Int) × Unit)) (n : Nat) (x) : evF Tryd.prog 76 TT M_value_tell F_value_tell (O_value_tell self_value_tell n) (L_value_tell self_value_tell n) dorcNil ⟨[], [], []⟩ [] C_value_tell x = value_tell_b self_value_tell n x := by kernel_rfl
omit [UDef] in
theorem okb_value_tell (self_value_tell : Ev.Val × Unit × (List Int) × Unit → Option (Unit × (List Int) × Unit)) (h_value_tell : Contract Tryd.prog 31 F_value_tell self_value_tell) (n : Nat) : Contract Tryd.prog 31 F_value_tell (value_tell_b self_value_tell n) :=
  Contract.of_ev (c := C_value_tell) (N := 76) Tryd.func31 (by kernel_rfl) (by kernel_rfl) (by kernel_rfl) (by kernel_rfl) (O_value_tell_ok self_value_tell h_value_tell n) dorcNil_ok (.of (l := [(1, (lbody 1000 C_value_tell 0)), (4, (lbody 1000 C_value_tell 1))]) (by kernel_rfl) ⟨.head (loopL_sound (O_value_tell_ok self_value_tell h_value_tell n) dorcNil_ok (.of (l := []) (by kernel_rfl) trivial) (s_value_tell_s1 self_value_tell n)), ⟨.tail rfl (.head (loopL_sound (O_value_tell_ok self_value_tell h_value_tell n) dorcNil_ok (.of (l := []) (by kernel_rfl) trivial) (s_value_tell_s4 self_value_tell n))), trivial⟩⟩) (e_value_tell self_value_tell n)
omit [UDef] in
theorem ok_value_tell : ∀ n, Contract Tryd.prog 31 F_value_tell (value_tell n)
  | 0 => fun _ _ h => by cases h
  | n + 1 => okb_value_tell _ (ok_value_tell n) n

noncomputable def F_value_Print : FnT := ⟨1, ⟨[], [(0, .val)], []⟩, [.v .str, .v .i64], []⟩
noncomputable def F_value_Check : FnT := ⟨1, ⟨[], [(0, .val)], []⟩, [.v .i64], []⟩
noncomputable def F_value_check : FnT := ⟨2, ⟨[], [(0, .val), (1, .i64)], []⟩, [.v .i64], []⟩
noncomputable def C_value_check : Code := bodyOf Tryd.f30
noncomputable def M_value_check : List (Nat × ArgM) := [(43, ⟨[], [], [], true⟩), (30, ⟨[], [], [], true⟩)]
instance : DfOk M_value_check := .none rfl
noncomputable def O_value_check {ρ : Type} (self_value_check : Ev.Val × Int × Unit → Option (Int × Unit)) (n : Nat) : Orc ρ := orcCons 43 F_valid (validN) (orcCons 30 F_value_check (self_value_check) (orcNil))
omit [QuietD Tryd.prog] [UDef] in
theorem O_value_check_ok {ρ : Type} (self_value_check : Ev.Val × Int × Unit → Option (Int × Unit)) (h_value_check : Contract Tryd.prog 30 F_value_check self_value_check) (n : Nat) : (O_value_check self_value_check n : Orc ρ).ok Tryd.prog := orcCons_ok (by kernel_rfl) (validN_ok) (orcCons_ok (by kernel_rfl) (h_value_check) (orcNil_ok))
noncomputable def T_value_check_s1 : Tm := ⟨[(2, .ptr 2 0)], [(1, .i64), (90, (.lst .val)), (91, .i64), (92, .i64)], [(2, .box [.d .val])]⟩
noncomputable def X_value_check_s1 : Tm := ⟨[(2, .ptr 2 0)], [], [(2, .box [.d .val])]⟩
noncomputable def R_value_check_s1 : Tm := ⟨[], [(4, .i64)], []⟩
noncomputable def L_value_check_s1 {ρ : Type} (self_value_check : Ev.Val × Int × Unit → Option (Int × Unit)) (n : Nat) : LOrc ρ := lorcNil
omit [Tabs] [QuietD Tryd.prog] [UDef] [UTabs] in
theorem s_value_check_s1 {ρ : Type} (self_value_check : Ev.Val × Int × Unit → Option (Int × Unit)) (n : Nat) (rec : T_value_check_s1.den → Option ρ) kx kr s : dStep Tryd.prog 114 TT M_value_check (O_value_check self_value_check n) (L_value_check_s1 self_value_check n) dorcNil 1 (lbody 1000 C_value_check 0) T_value_check_s1 X_value_check_s1 R_value_check_s1 ⟨[], [], []⟩ rec kx kr s = value_check_s1 self_value_check n rec kx kr s := by kernel_rfl
noncomputable def L_value_check {ρ : Type} (self_value_check : Ev.Val × Int × Unit → Option (Int × Unit)) (n : Nat) : LOrc ρ := lorcCons 1 (loopL 114 1 n T_value_check_s1 X_value_check_s1 R_value_check_s1 ⟨[], [], []⟩ (value_check_s1 self_value_check n)) (lorcNil)
omit [Tabs] [QuietD Tryd.prog] [UDef] [UTabs] in
theorem e_value_check (self_value_check : Ev.Val × Int × Unit → Option (Int × Unit)) (n : Nat) (x) : evF Tryd.prog 114 TT M_value_check F_value_check (O_value_check self_value_check n) (L_value_check self_value_check n) dorcNil ⟨[], [], []⟩ [.tmp 4] C_value_check x = value_check_b self_value_check n x := by kernel_rfl
omit [UDef] in
theorem okb_value_check (self_value_check : Ev.Val × Int × Unit → Option (Int × Unit)) (h_value_check : Contract Tryd.prog 30 F_value_check self_value_check) (n : Nat) : Contract Tryd.prog 30 F_value_check (value_check_b self_value_check n) :=
  Contract.of_ev (c := C_value_check) (N := 114) Tryd.func30 (by kernel_rfl) (by kernel_rfl) (by kernel_rfl) (by kernel_rfl) (O_value_check_ok self_value_check h_value_check n) dorcNil_ok (.of (l := [(1, (lbody 1000 C_value_check 0))]) (by kernel_rfl) ⟨.head (loopL_sound (O_value_check_ok self_value_check h_value_check n) dorcNil_ok (.of (l := []) (by kernel_rfl) trivial) (s_value_check_s1 self_value_check n)), trivial⟩) (e_value_check self_value_check n)
omit [UDef] in
theorem ok_value_check : ∀ n, Contract Tryd.prog 30 F_value_check (value_check n)
  | 0 => fun _ _ h => by cases h
  | n + 1 => okb_value_check _ (ok_value_check n) n

noncomputable def C_value_Check : Code := bodyOf Tryd.f16
noncomputable def M_value_Check : List (Nat × ArgM) := [(30, ⟨[], [], [], true⟩)]
instance : DfOk M_value_Check := .none rfl
noncomputable def O_value_Check {ρ : Type} (n : Nat) : Orc ρ := orcCons 30 F_value_check (value_check n) (orcNil)
omit [UDef] in
theorem O_value_Check_ok {ρ : Type} (n : Nat) : (O_value_Check n : Orc ρ).ok Tryd.prog := orcCons_ok (by kernel_rfl) (ok_value_check n) (orcNil_ok)
noncomputable def L_value_Check {ρ : Type} (n : Nat) : LOrc ρ := lorcNil
omit [Tabs] [QuietD Tryd.prog] [UDef] [UTabs] in
theorem e_value_Check (n : Nat) (x) : evF Tryd.prog 5 TT M_value_Check F_value_Check (O_value_Check n) (L_value_Check n) dorcNil ⟨[], [], []⟩ [.tmp 2] C_value_Check x = value_Check n x := by kernel_rfl
omit [UDef] in
theorem ok_value_Check (n : Nat) : Contract Tryd.prog 16 F_value_Check (value_Check n) :=
  Contract.of_ev (c := C_value_Check) (N := 5) Tryd.func16 (by kernel_rfl) (by kernel_rfl) (by kernel_rfl) (by kernel_rfl) (O_value_Check_ok n) dorcNil_ok (.of (l := []) (by kernel_rfl) trivial) (e_value_Check n)

noncomputable def C_value_Print : Code := bodyOf Tryd.f17
noncomputable def M_value_Print : List (Nat × ArgM) := [(999999996, ⟨[53, 5], [], [], false⟩), (31, ⟨[0], [], [], false⟩), (32, ⟨[0], [], [], false⟩), (33, ⟨[0], [], [], false⟩), (16, ⟨[], [], [], true⟩)]
instance : DfOk M_value_Print := .none rfl
noncomputable def O_value_Print {ρ : Type} (n : Nat) : Orc ρ := orcCons 16 F_value_Check (value_Check n) (orcCons 31 F_value_tell (value_tell n) (orcCons 32 F_pstrings_Builder_Len (pstrings_Builder_Len) (orcCons 33 F_st (stringN) (orcNil))))
omit [UDef] in
theorem O_value_Print_ok {ρ : Type} (n : Nat) : (O_value_Print n : Orc ρ).ok Tryd.prog := orcCons_ok (by kernel_rfl) (ok_value_Check n) (orcCons_ok (by kernel_rfl) (ok_value_tell n) (orcCons_ok (by kernel_rfl) (ok_pstrings_Builder_Len) (orcCons_ok (by kernel_rfl) (stringN_ok) (orcNil_ok))))
noncomputable def L_value_Print {ρ : Type} (n : Nat) : LOrc ρ := lorcNil
omit [Tabs] [QuietD Tryd.prog] [UDef] [UTabs] in
theorem e_value_Print (n : Nat) (x) : evF Tryd.prog 16 TT M_value_Print F_value_Print (O_value_Print n) (L_value_Print n) dorcNil ⟨[], [], []⟩ [.tmp 2, .tmp 3] C_value_Print x = value_Print n x := by kernel_rfl
omit [UDef] in
theorem ok_value_Print (n : Nat) : Contract Tryd.prog 17 F_value_Print (value_Print n) :=
  Contract.of_ev (c := C_value_Print) (N := 16) Tryd.func17 (by kernel_rfl) (by kernel_rfl) (by kernel_rfl) (by kernel_rfl) (O_value_Print_ok n) dorcNil_ok (.of (l := []) (by kernel_rfl) trivial) (e_value_Print n)

noncomputable def F_pvalue_reader_eat : FnT := ⟨2, ⟨[(0, .ptr 1000000 0)], [(1, .str)], [(1000000, .box [.d .str, .d .i64])]⟩, [.v .bool], [(1000000, .box [.d .str, .d .i64])]⟩
noncomputable def F_strings_HasPrefix : FnT := ⟨2, ⟨[], [(0, .str), (1, .str)], []⟩, [.v .bool], []⟩
noncomputable def F_internal_stringslite_HasPrefix : FnT := ⟨2, ⟨[], [(0, .str), (1, .str)], []⟩, [.v .bool], []⟩
noncomputable def C_internal_stringslite_HasPrefix : Code := bodyOf Tryd.f66
noncomputable def M_internal_stringslite_HasPrefix : List (Nat × ArgM) := []
instance : DfOk M_internal_stringslite_HasPrefix := .none rfl
noncomputable def O_internal_stringslite_HasPrefix {ρ : Type} : Orc ρ := orcNil
omit [QuietD Tryd.prog] [UDef] [UTabs] in
theorem O_internal_stringslite_HasPrefix_ok {ρ : Type} : (O_internal_stringslite_HasPrefix : Orc ρ).ok Tryd.prog := orcNil_ok
noncomputable def L_internal_stringslite_HasPrefix {ρ : Type} : LOrc ρ := lorcNil
omit [Tabs] [QuietD Tryd.prog] [UDef] [UTabs] in
theorem e_internal_stringslite_HasPrefix (x) : evF Tryd.prog 18 TT M_internal_stringslite_HasPrefix F_internal_stringslite_HasPrefix (O_internal_stringslite_HasPrefix) (L_internal_stringslite_HasPrefix) dorcNil ⟨[], [], []⟩ [.tmp 4] C_internal_stringslite_HasPrefix x = internal_stringslite_HasPrefix x := by kernel_rfl
omit [UDef] [UTabs] in
theorem ok_internal_stringslite_HasPrefix : Contract Tryd.prog 66 F_internal_stringslite_HasPrefix (internal_stringslite_HasPrefix) :=
  Contract.of_ev (c := C_internal_stringslite_HasPrefix) (N := 18) Tryd.func66 (by kernel_rfl) (by kernel_rfl) (by kernel_rfl) (by kernel_rfl) (O_internal_stringslite_HasPrefix_ok) dorcNil_ok (.of (l := []) (by kernel_rfl) trivial) (e_internal_stringslite_HasPrefix)

noncomputable def C_strings_HasPrefix : Code := bodyOf Tryd.f59
noncomputable def M_strings_HasPrefix : List (Nat × ArgM) := [(66, ⟨[], [], [], true⟩)]
instance : DfOk M_strings_HasPrefix := .none rfl
noncomputable def O_strings_HasPrefix {ρ : Type} : Orc ρ := orcCons 66 F_internal_stringslite_HasPrefix (internal_stringslite_HasPrefix) (orcNil)
omit [UDef] [UTabs] in
theorem O_strings_HasPrefix_ok {ρ : Type} : (O_strings_HasPrefix : Orc ρ).ok Tryd.prog := orcCons_ok (by kernel_rfl) (ok_internal_stringslite_HasPrefix) (orcNil_ok)
noncomputable def L_strings_HasPrefix {ρ : Type} : LOrc ρ := lorcNil
omit [Tabs] [QuietD Tryd.prog] [UDef] [UTabs] in
theorem e_strings_HasPrefix (x) : evF Tryd.prog 8 TT M_strings_HasPrefix F_strings_HasPrefix (O_strings_HasPrefix) (L_strings_HasPrefix) dorcNil ⟨[], [], []⟩ [.tmp 4] C_strings_HasPrefix x = strings_HasPrefix x := by kernel_rfl
omit [UDef] [UTabs] in
theorem ok_strings_HasPrefix : Contract Tryd.prog 59 F_strings_HasPrefix (strings_HasPrefix) :=
  Contract.of_ev (c := C_strings_HasPrefix) (N := 8) Tryd.func59 (by kernel_rfl) (by kernel_rfl) (by kernel_rfl) (by kernel_rfl) (O_strings_HasPrefix_ok) dorcNil_ok (.of (l := []) (by kernel_rfl) trivial) (e_strings_HasPrefix)

noncomputable def C_pvalue_reader_eat : Code := bodyOf Tryd.f49
noncomputable def M_pvalue_reader_eat : List (Nat × ArgM) := [(59, ⟨[], [], [], true⟩)]
instance : DfOk M_pvalue_reader_eat := .none rfl
noncomputable def O_pvalue_reader_eat {ρ : Type} : Orc ρ := orcCons 59 F_strings_HasPrefix (strings_HasPrefix) (orcNil)
omit [UDef] [UTabs] in
theorem O_pvalue_reader_eat_ok {ρ : Type} : (O_pvalue_reader_eat : Orc ρ).ok Tryd.prog := orcCons_ok (by kernel_rfl) (ok_strings_HasPrefix) (orcNil_ok)
noncomputable def L_pvalue_reader_eat {ρ : Type} : LOrc ρ := lorcNil
omit [Tabs] [QuietD Tryd.prog] [UDef] [UTabs] in
theorem e_pvalue_reader_eat (x) : evF Tryd.prog 26 TT M_pvalue_reader_eat F_pvalue_reader_eat (O_pvalue_reader_eat) (L_pvalue_reader_eat) (evDraw Tryd.prog 26 TT M_pvalue_reader_eat (O_pvalue_reader_eat)) ⟨[], [], []⟩ [.tmp 4] C_pvalue_reader_eat x = pvalue_reader_eat x := by kernel_rfl
omit [UDef] [UTabs] in
theorem ok_pvalue_reader_eat : Contract Tryd.prog 49 F_pvalue_reader_eat (pvalue_reader_eat) :=
  Contract.of_ev (c := C_pvalue_reader_eat) (N := 26) Tryd.func49 (by kernel_rfl) (by kernel_rfl) (by kernel_rfl) (by kernel_rfl) (O_pvalue_reader_eat_ok) (evDraw_ok (O_pvalue_reader_eat_ok) (by kernel_rfl)) (.of (l := []) (by kernel_rfl) trivial) (e_pvalue_reader_eat)

noncomputable def F_pvalue_reader_text : FnT := ⟨1, ⟨[(0, .ptr 1000000 0)], [], [(1000000, .box [.d .str, .d .i64])]⟩, [.v .str], [(1000000, .box [.d .str, .d .i64])]⟩
noncomputable def C_pvalue_reader_text : Code := bodyOf Tryd.f50
noncomputable def M_pvalue_reader_text : List (Nat × ArgM) := [(999999996, ⟨[53, 5], [], [], false⟩), (49, ⟨[0], [], [], false⟩), (33, ⟨[0], [], [], false⟩), (47, ⟨[0], [], [], false⟩), (48, ⟨[0], [], [], false⟩), (60, ⟨[], [], [], true⟩)]
instance : DfOk M_pvalue_reader_text := .none rfl
noncomputable def O_pvalue_reader_text {ρ : Type} (n : Nat) : Orc ρ := orcCons 49 F_pvalue_reader_eat (pvalue_reader_eat) (orcCons 33 F_st (stringN) (orcCons 47 F_pstrings_Builder_WriteByte (pstrings_Builder_WriteByte) (orcCons 60 F_decode (decodeN) (orcCons 48 F_pstrings_Builder_WriteRune (pstrings_Builder_WriteRune) (orcNil)))))
omit [UDef] in
theorem O_pvalue_reader_text_ok {ρ : Type} (n : Nat) : (O_pvalue_reader_text n : Orc ρ).ok Tryd.prog := orcCons_ok (by kernel_rfl) (ok_pvalue_reader_eat) (orcCons_ok (by kernel_rfl) (stringN_ok) (orcCons_ok (by kernel_rfl) (ok_pstrings_Builder_WriteByte) (orcCons_ok (by kernel_rfl) (decodeN_ok) (orcCons_ok (by kernel_rfl) (ok_pstrings_Builder_WriteRune) (orcNil_ok)))))
noncomputable def T_pvalue_reader_text_s0 : Tm := ⟨[(0, .ptr 1000000 0), (3, .ptr 3 0)], [], [(3, .box [.ref (.pn 3), .ref (.own 500003)] (some 53)), (500003, .arr 5 .u8), (1000000, .box [.d .str, .d .i64])]⟩
noncomputable def X_pvalue_reader_text_s0 : Tm := ⟨[], [], []⟩
noncomputable def R_pvalue_reader_text_s0 : Tm := ⟨[], [(2, .str)], [(1000000, .box [.d .str, .d .i64])]⟩
noncomputable def L_pvalue_reader_text_s0 {ρ : Type} (n : Nat) : LOrc ρ := lorcNil
omit [Tabs] [QuietD Tryd.prog] [UDef] [UTabs] in
theorem s_pvalue_reader_text_s0 {ρ : Type} (n : Nat) (rec : T_pvalue_reader_text_s0.den → Option ρ) kx kr s : dStep Tryd.prog 69 TT M_pvalue_reader_text (O_pvalue_reader_text n) (L_pvalue_reader_text_s0 n) (evDraw Tryd.prog 69 TT M_pvalue_reader_text (O_pvalue_reader_text n)) 0 (lbody 1000 C_pvalue_reader_text 0) T_pvalue_reader_text_s0 X_pvalue_reader_text_s0 R_pvalue_reader_text_s0 ⟨[], [], []⟩ rec kx kr s = pvalue_reader_text_s0 n rec kx kr s := by kernel_rfl
noncomputable def L_pvalue_reader_text {ρ : Type} (n : Nat) : LOrc ρ := lorcCons 0 (loopL 69 0 n T_pvalue_reader_text_s0 X_pvalue_reader_text_s0 R_pvalue_reader_text_s0 ⟨[], [], []⟩ (pvalue_reader_text_s0 n)) (lorcNil)
omit [Tabs] [QuietD Tryd.prog] [UDef] [UTabs] in
theorem e_pvalue_reader_text (n : Nat) (x) : evF Tryd.prog 69 TT M_pvalue_reader_text F_pvalue_reader_text (O_pvalue_reader_text n) (L_pvalue_reader_text n) (evDraw Tryd.prog 69 TT M_pvalue_reader_text (O_pvalue_reader_text n)) ⟨[], [], []⟩ [.tmp 2] C_pvalue_reader_text x = pvalue_reader_text n x := by kernel_rfl
omit [UDef] in
theorem ok_pvalue_reader_text (n : Nat) : Contract Tryd.prog 50 F_pvalue_reader_text (pvalue_reader_text n) :=
  Contract.of_ev (c := C_pvalue_reader_text) (N := 69) Tryd.func50 (by kernel_rfl) (by kernel_rfl) (by kernel_rfl) (by kernel_rfl) (O_pvalue_reader_text_ok n) (evDraw_ok (O_pvalue_reader_text_ok n) (by kernel_rfl)) (.of (l := [(0, (lbody 1000 C_pvalue_reader_text 0))]) (by kernel_rfl) ⟨.head (loopL_sound (O_pvalue_reader_text_ok n) (evDraw_ok (O_pvalue_reader_text_ok n) (by kernel_rfl)) (.of (l := []) (by kernel_rfl) trivial) (s_pvalue_reader_text_s0 n)), trivial⟩) (e_pvalue_reader_text n)

noncomputable def F_pvalue_reader_value : FnT := ⟨2, ⟨[(0, .ptr 1000000 0)], [(1, .i64)], [(1000000, .box [.d .str, .d .i64])]⟩, [.v .val], [(1000000, .box [.d .str, .d .i64])]⟩
noncomputable def F_value_truth : FnT := ⟨1, ⟨[], [(0, .bool)], []⟩, [.v .val], []⟩
noncomputable def C_value_truth : Code := bodyOf Tryd.f28
noncomputable def M_value_truth : List (Nat × ArgM) := []
instance : DfOk M_value_truth := .none rfl
noncomputable def O_value_truth {ρ : Type} : Orc ρ := orcNil
omit [QuietD Tryd.prog] [UDef] [UTabs] in
theorem O_value_truth_ok {ρ : Type} : (O_value_truth : Orc ρ).ok Tryd.prog := orcNil_ok
noncomputable def L_value_truth {ρ : Type} : LOrc ρ := lorcNil
omit [Tabs] [QuietD Tryd.prog] [UDef] [UTabs] in
theorem e_value_truth (x) : evF Tryd.prog 8 TT M_value_truth F_value_truth (O_value_truth) (L_value_truth) dorcNil ⟨[], [], []⟩ [.cell 2 24] C_value_truth x = value_truth x := by kernel_rfl
omit [UDef] [UTabs] in
theorem ok_value_truth : Contract Tryd.prog 28 F_value_truth (value_truth) :=
  Contract.of_ev (c := C_value_truth) (N := 8) Tryd.func28 (by kernel_rfl) (by kernel_rfl) (by kernel_rfl) (by kernel_rfl) (O_value_truth_ok) dorcNil_ok (.of (l := []) (by kernel_rfl) trivial) (e_value_truth)

noncomputable def C_pvalue_reader_value : Code := bodyOf Tryd.f35
noncomputable def M_pvalue_reader_value : List (Nat × ArgM) := [(49, ⟨[0], [], [], false⟩), (50, ⟨[0], [], [], false⟩), (35, ⟨[0], [], [], false⟩), (46, ⟨[], [], [], true⟩)]
instance : DfOk M_pvalue_reader_value := .none rfl
noncomputable def O_pvalue_reader_value {ρ : Type} (self_pvalue_reader_value : Int × (ByteArray × Int × Unit) × Unit → Option (Ev.Val × (ByteArray × Int × Unit) × Unit)) (n : Nat) : Orc ρ := orcCons 49 F_pvalue_reader_eat (pvalue_reader_eat) (orcCons 28 F_value_truth (value_truth) (orcCons 50 F_pvalue_reader_text (pvalue_reader_text n) (orcCons 35 F_pvalue_reader_value (self_pvalue_reader_value) (orcCons 51 F_atoi (atoiN) (orcCons 46 F_itoa (itoaN) (orcNil))))))
omit [UDef] in
theorem O_pvalue_reader_value_ok {ρ : Type} (self_pvalue_reader_value : Int × (ByteArray × Int × Unit) × Unit → Option (Ev.Val × (ByteArray × Int × Unit) × Unit)) (h_pvalue_reader_value : Contract Tryd.prog 35 F_pvalue_reader_value self_pvalue_reader_value) (n : Nat) : (O_pvalue_reader_value self_pvalue_reader_value n : Orc ρ).ok Tryd.prog := orcCons_ok (by kernel_rfl) (ok_pvalue_reader_eat) (orcCons_ok (by kernel_rfl) (ok_value_truth) (orcCons_ok (by kernel_rfl) (ok_pvalue_reader_text n) (orcCons_ok (by kernel_rfl) (h_pvalue_reader_value) (orcCons_ok (by kernel_rfl) (atoiN_ok) (orcCons_ok (by kernel_rfl) (itoaN_ok) (orcNil_ok))))))
noncomputable def T_pvalue_reader_value_s1 : Tm := ⟨[(0, .ptr 1000000 0), (4, .ptr 4 0), (6, .ptr 6 0)], [(1, .i64)], [(4, .box [.d .val]), (6, .box [.d .i64, .d .i64, .d .str, .ref (.own 300243)]), (300243, .arr 24 .val), (1000000, .box [.d .str, .d .i64])]⟩
noncomputable def X_pvalue_reader_value_s1 : Tm := ⟨[], [], []⟩
noncomputable def R_pvalue_reader_value_s1 : Tm := ⟨[(4, .ptr 4 0)], [], [(4, .box [.d .i64, .d .i64, .d .str, .ref (.own 300243)]), (300243, .arr 24 .val), (1000000, .box [.d .str, .d .i64])]⟩
noncomputable def L_pvalue_reader_value_s1 {ρ : Type} (self_pvalue_reader_value : Int × (ByteArray × Int × Unit) × Unit → Option (Ev.Val × (ByteArray × Int × Unit) × Unit)) (n : Nat) : LOrc ρ := lorcNil
omit [Tabs] [QuietD Tryd.prog] [UDef] [UTabs] in
theorem s_pvalue_reader_value_s1 {ρ : Type} (self_pvalue_reader_value : Int × (ByteArray × Int × Unit) × Unit → Option (Ev.Val × (ByteArray × Int × Unit) × Unit)) (n : Nat) (rec : T_pvalue_reader_value_s1.den → Option ρ) kx kr s : dStep Tryd.prog 143 TT M_pvalue_reader_value (O_pvalue_reader_value self_pvalue_reader_value n) (L_pvalue_reader_value_s1 self_pvalue_reader_value n) (evDraw Tryd.prog 143 TT M_pvalue_reader_value (O_pvalue_reader_value self_pvalue_reader_value n)) 1 (lbody 1000 C_pvalue_reader_value 0) T_pvalue_reader_value_s1 X_pvalue_reader_value_s1 R_pvalue_reader_value_s1 ⟨[], [], [(6, 3, 300243, 24, 4)]⟩ rec kx kr s = pvalue_reader_value_s1 self_pvalue_reader_value n rec kx kr s := by kernel_rfl
noncomputable def T_pvalue_reader_value_s3 : Tm := ⟨[(0, .ptr 1000000 0), (4, .ptr 4 0)], [(5, .i64)], [(4, .box [.d .val]), (1000000, .box [.d .str, .d .i64])]⟩
noncomputable def X_pvalue_reader_value_s3 : Tm := ⟨[(0, .ptr 1000000 0), (4, .ptr 4 0)], [(5, .i64)], [(4, .box [.d .val]), (1000000, .box [.d .str, .d .i64])]⟩
noncomputable def R_pvalue_reader_value_s3 : Tm := ⟨[], [], []⟩
noncomputable def L_pvalue_reader_value_s3 {ρ : Type} (self_pvalue_reader_value : Int × (ByteArray × Int × Unit) × Unit → Option (Ev.Val × (ByteArray × Int × Unit) × Unit)) (n : Nat) : LOrc ρ := lorcNil
omit [Tabs] [QuietD Tryd.prog] [UDef] [UTabs] in
theorem s_pvalue_reader_value_s3 {ρ : Type} (self_pvalue_reader_value : Int × (ByteArray × Int × Unit) × Unit → Option (Ev.Val × (ByteArray × Int × Unit) × Unit)) (n : Nat) (rec : T_pvalue_reader_value_s3.den → Option ρ) kx kr s : dStep Tryd.prog 143 TT M_pvalue_reader_value (O_pvalue_reader_value self_pvalue_reader_value n) (L_pvalue_reader_value_s3 self_pvalue_reader_value n) (evDraw Tryd.prog 143 TT M_pvalue_reader_value (O_pvalue_reader_value self_pvalue_reader_value n)) 3 (lbody 1000 C_pvalue_reader_value 1) T_pvalue_reader_value_s3 X_pvalue_reader_value_s3 R_pvalue_reader_value_s3 ⟨[], [], []⟩ rec kx kr s = pvalue_reader_value_s3 self_pvalue_reader_value n rec kx kr s := by kernel_rfl
noncomputable def L_pvalue_reader_value {ρ : Type} (self_pvalue_reader_value : Int × (ByteArray × Int × Unit) × Unit → Option (Ev.Val × (ByteArray × Int × Unit) × Unit)) (n : Nat) : LOrc ρ := lorcCons 1 (loopL 143 1 n T_pvalue_reader_value_s1 X_pvalue_reader_value_s1 R_pvalue_reader_value_s1 ⟨[], [], [(6, 3, 300243, 24, 4)]⟩ (pvalue_reader_value_s1 self_pvalue_reader_value n)) (lorcCons 3 (loopL 143 3 n T_pvalue_reader_value_s3 X_pvalue_reader_value_s3 R_pvalue_reader_value_s3 ⟨[], [], []⟩ (pvalue_reader_value_s3 self_pvalue_reader_value n)) (lorcNil))
omit [Tabs] [QuietD Tryd.prog] [UDef] [UTabs] in
theorem e_pvalue_reader_value (self_pvalue_reader_value : Int × (ByteArray × Int × Unit) × Unit → Option (Ev.Val × (ByteArray × Int × Unit) × Unit)) (n : Nat) (x) : evF Tryd.prog 143 TT M_pvalue_reader_value F_pvalue_reader_value (O_pvalue_reader_value self_pvalue_reader_value n) (L_pvalue_reader_value self_pvalue_reader_value n) (evDraw Tryd.prog 143 TT M_pvalue_reader_value (O_pvalue_reader_value self_pvalue_reader_value n)) ⟨[], [], []⟩ [.cell 4 24] C_pvalue_reader_value x = pvalue_reader_value_b self_pvalue_reader_value n x := by kernel_rfl
omit [UDef] in
theorem okb_pvalue_reader_value (self_pvalue_reader_value : Int × (ByteArray × Int × Unit) × Unit → Option (Ev.Val × (ByteArray × Int × Unit) × Unit)) (h_pvalue_reader_value : Contract Tryd.prog 35 F_pvalue_reader_value self_pvalue_reader_value) (n : Nat) : Contract Tryd.prog 35 F_pvalue_reader_value (pvalue_reader_value_b self_pvalue_reader_value n) :=
  Contract.of_ev (c := C_pvalue_reader_value) (N := 143) Tryd.func35 (by kernel_rfl) (by kernel_rfl) (by kernel_rfl) (by kernel_rfl) (O_pvalue_reader_value_ok self_pvalue_reader_value h_pvalue_reader_value n) (evDraw_ok (O_pvalue_reader_value_ok self_pvalue_reader_value h_pvalue_reader_value n) (by kernel_rfl)) (.of (l := [(1, (lbody 1000 C_pvalue_reader_value 0)), (3, (lbody 1000 C_pvalue_reader_value 1))]) (by kernel_rfl) ⟨.head (loopL_sound (O_pvalue_reader_value_ok self_pvalue_reader_value h_pvalue_reader_value n) (evDraw_ok (O_pvalue_reader_value_ok self_pvalue_reader_value h_pvalue_reader_value n) (by kernel_rfl)) (.of (l := []) (by kernel_rfl) trivial) (s_pvalue_reader_value_s1 self_pvalue_reader_value n)), ⟨.tail rfl (.head (loopL_sound (O_pvalue_reader_value_ok self_pvalue_reader_value h_pvalue_reader_value n) (evDraw_ok (O_pvalue_reader_value_ok self_pvalue_reader_value h_pvalue_reader_value n) (by kernel_rfl)) (.of (l := []) (by kernel_rfl) trivial) (s_pvalue_reader_value_s3 self_pvalue_reader_value n))), trivial⟩⟩) (e_pvalue_reader_value self_pvalue_reader_value n)
omit [UDef] in
theorem ok_pvalue_reader_value : ∀ n, Contract Tryd.prog 35 F_pvalue_reader_value (pvalue_reader_value n)
  | 0 => fun _ _ h => by cases h
  | n + 1 => okb_pvalue_reader_value _ (ok_pvalue_reader_value n) n

noncomputable def F_value_Parse : FnT := ⟨1, ⟨[], [(0, .str)], []⟩, [.v .val, .v .i64, .v .i64], []⟩
noncomputable def C_value_Parse : Code := bodyOf Tryd.f18
noncomputable def M_value_Parse : List (Nat × ArgM) := [(999999997, ⟨[34], [], [], false⟩), (35, ⟨[0], [], [], false⟩), (16, ⟨[], [], [], true⟩)]
instance : DfOk M_value_Parse := ⟨fun g hg => UDef.ok g ((show ∀ x ∈ ([34] : List Nat), x ∈ ([34] : List Nat) by decide) g hg)⟩
noncomputable def O_value_Parse {ρ : Type} (n : Nat) : Orc ρ := orcCons 35 F_pvalue_reader_value (pvalue_reader_value n) (orcCons 16 F_value_Check (value_Check n) (orcNil))
omit [UDef] in
theorem O_value_Parse_ok {ρ : Type} (n : Nat) : (O_value_Parse n : Orc ρ).ok Tryd.prog := orcCons_ok (by kernel_rfl) (ok_pvalue_reader_value n) (orcCons_ok (by kernel_rfl) (ok_value_Check n) (orcNil_ok))
noncomputable def L_value_Parse {ρ : Type} (n : Nat) : LOrc ρ := lorcNil
omit [Tabs] [QuietD Tryd.prog] [UDef] [UTabs] in
theorem e_value_Parse (n : Nat) (x) : evF Tryd.prog 37 TT M_value_Parse F_value_Parse (O_value_Parse n) (L_value_Parse n) dorcNil ⟨[], [], []⟩ [.cell 2 24, .cell 3 3, .cell 4 29] C_value_Parse x = value_Parse n x := by kernel_rfl
theorem ok_value_Parse (n : Nat) : Contract Tryd.prog 18 F_value_Parse (value_Parse n) :=
  Contract.of_ev (c := C_value_Parse) (N := 37) Tryd.func18 (by kernel_rfl) (by kernel_rfl) (by kernel_rfl) (by kernel_rfl) (O_value_Parse_ok n) dorcNil_ok (.of (l := []) (by kernel_rfl) trivial) (e_value_Parse n)

noncomputable def F_espalierlaw_ValueOrder : FnT := ⟨2, ⟨[], [(0, .val), (1, .val)], []⟩, [.v .bool], []⟩
noncomputable def F_espalierlaw_valued : FnT := ⟨0, ⟨[], [], []⟩, [.v .bool], []⟩
noncomputable def F_espalierlaw_num : FnT := ⟨1, ⟨[], [(0, .i64)], []⟩, [.v .val], []⟩
noncomputable def C_espalierlaw_num : Code := bodyOf Tryd.f19
noncomputable def M_espalierlaw_num : List (Nat × ArgM) := []
instance : DfOk M_espalierlaw_num := .none rfl
noncomputable def O_espalierlaw_num {ρ : Type} : Orc ρ := orcNil
omit [QuietD Tryd.prog] [UDef] [UTabs] in
theorem O_espalierlaw_num_ok {ρ : Type} : (O_espalierlaw_num : Orc ρ).ok Tryd.prog := orcNil_ok
noncomputable def L_espalierlaw_num {ρ : Type} : LOrc ρ := lorcNil
omit [Tabs] [QuietD Tryd.prog] [UDef] [UTabs] in
theorem e_espalierlaw_num (x) : evF Tryd.prog 5 TT M_espalierlaw_num F_espalierlaw_num (O_espalierlaw_num) (L_espalierlaw_num) dorcNil ⟨[], [], []⟩ [.cell 2 24] C_espalierlaw_num x = espalierlaw_num x := by kernel_rfl
omit [UDef] [UTabs] in
theorem ok_espalierlaw_num : Contract Tryd.prog 19 F_espalierlaw_num (espalierlaw_num) :=
  Contract.of_ev (c := C_espalierlaw_num) (N := 5) Tryd.func19 (by kernel_rfl) (by kernel_rfl) (by kernel_rfl) (by kernel_rfl) (O_espalierlaw_num_ok) dorcNil_ok (.of (l := []) (by kernel_rfl) trivial) (e_espalierlaw_num)

noncomputable def F_espalierlaw_str : FnT := ⟨1, ⟨[], [(0, .str)], []⟩, [.v .val], []⟩
noncomputable def C_espalierlaw_str : Code := bodyOf Tryd.f22
noncomputable def M_espalierlaw_str : List (Nat × ArgM) := []
instance : DfOk M_espalierlaw_str := .none rfl
noncomputable def O_espalierlaw_str {ρ : Type} : Orc ρ := orcNil
omit [QuietD Tryd.prog] [UDef] [UTabs] in
theorem O_espalierlaw_str_ok {ρ : Type} : (O_espalierlaw_str : Orc ρ).ok Tryd.prog := orcNil_ok
noncomputable def L_espalierlaw_str {ρ : Type} : LOrc ρ := lorcNil
omit [Tabs] [QuietD Tryd.prog] [UDef] [UTabs] in
theorem e_espalierlaw_str (x) : evF Tryd.prog 5 TT M_espalierlaw_str F_espalierlaw_str (O_espalierlaw_str) (L_espalierlaw_str) dorcNil ⟨[], [], []⟩ [.cell 2 24] C_espalierlaw_str x = espalierlaw_str x := by kernel_rfl
omit [UDef] [UTabs] in
theorem ok_espalierlaw_str : Contract Tryd.prog 22 F_espalierlaw_str (espalierlaw_str) :=
  Contract.of_ev (c := C_espalierlaw_str) (N := 5) Tryd.func22 (by kernel_rfl) (by kernel_rfl) (by kernel_rfl) (by kernel_rfl) (O_espalierlaw_str_ok) dorcNil_ok (.of (l := []) (by kernel_rfl) trivial) (e_espalierlaw_str)

noncomputable def F_espalierlaw_list : FnT := ⟨1, ⟨[], [(0, (.lst .val))], []⟩, [.v .val], []⟩
noncomputable def C_espalierlaw_list : Code := bodyOf Tryd.f21
noncomputable def M_espalierlaw_list : List (Nat × ArgM) := []
instance : DfOk M_espalierlaw_list := .none rfl
noncomputable def O_espalierlaw_list {ρ : Type} : Orc ρ := orcNil
omit [QuietD Tryd.prog] [UDef] [UTabs] in
theorem O_espalierlaw_list_ok {ρ : Type} : (O_espalierlaw_list : Orc ρ).ok Tryd.prog := orcNil_ok
noncomputable def L_espalierlaw_list {ρ : Type} : LOrc ρ := lorcNil
omit [Tabs] [QuietD Tryd.prog] [UDef] [UTabs] in
theorem e_espalierlaw_list (x) : evF Tryd.prog 5 TT M_espalierlaw_list F_espalierlaw_list (O_espalierlaw_list) (L_espalierlaw_list) dorcNil ⟨[], [], []⟩ [.cell 2 24] C_espalierlaw_list x = espalierlaw_list x := by kernel_rfl
omit [UDef] [UTabs] in
theorem ok_espalierlaw_list : Contract Tryd.prog 21 F_espalierlaw_list (espalierlaw_list) :=
  Contract.of_ev (c := C_espalierlaw_list) (N := 5) Tryd.func21 (by kernel_rfl) (by kernel_rfl) (by kernel_rfl) (by kernel_rfl) (O_espalierlaw_list_ok) dorcNil_ok (.of (l := []) (by kernel_rfl) trivial) (e_espalierlaw_list)

noncomputable def F_espalierref_SameValue : FnT := ⟨2, ⟨[], [(0, .val), (1, .val)], []⟩, [.v .bool], []⟩
noncomputable def F_espalierref_OrderOf : FnT := ⟨2, ⟨[], [(0, .val), (1, .val)], []⟩, [.v .i64], []⟩
noncomputable def F_bytes_Compare : FnT := ⟨2, ⟨[], [(0, (.lst .u8)), (1, (.lst .u8))], []⟩, [.v .i64], []⟩
noncomputable def C_bytes_Compare : Code := bodyOf Tryd.f27
noncomputable def M_bytes_Compare : List (Nat × ArgM) := []
instance : DfOk M_bytes_Compare := .none rfl
noncomputable def O_bytes_Compare {ρ : Type} : Orc ρ := orcCons 42 T_cmpB (cmpN) (orcNil)
omit [QuietD Tryd.prog] [UDef] [UTabs] in
theorem O_bytes_Compare_ok {ρ : Type} : (O_bytes_Compare : Orc ρ).ok Tryd.prog := orcExt_ok (by kernel_rfl) (cmp_ok) (orcNil_ok)
noncomputable def L_bytes_Compare {ρ : Type} : LOrc ρ := lorcNil
omit [Tabs] [QuietD Tryd.prog] [UDef] [UTabs] in
theorem e_bytes_Compare (x) : evF Tryd.prog 8 TT M_bytes_Compare F_bytes_Compare (O_bytes_Compare) (L_bytes_Compare) dorcNil ⟨[], [], []⟩ [.tmp 4] C_bytes_Compare x = bytes_Compare x := by kernel_rfl
omit [UDef] [UTabs] in
theorem ok_bytes_Compare : Contract Tryd.prog 27 F_bytes_Compare (bytes_Compare) :=
  Contract.of_ev (c := C_bytes_Compare) (N := 8) Tryd.func27 (by kernel_rfl) (by kernel_rfl) (by kernel_rfl) (by kernel_rfl) (O_bytes_Compare_ok) dorcNil_ok (.of (l := []) (by kernel_rfl) trivial) (e_bytes_Compare)

noncomputable def C_espalierref_OrderOf : Code := bodyOf Tryd.f10
noncomputable def M_espalierref_OrderOf : List (Nat × ArgM) := [(27, ⟨[], [], [], true⟩), (10, ⟨[], [], [], true⟩)]
instance : DfOk M_espalierref_OrderOf := .none rfl
noncomputable def O_espalierref_OrderOf {ρ : Type} (self_espalierref_OrderOf : Ev.Val × Ev.Val × Unit → Option (Int × Unit)) (n : Nat) : Orc ρ := orcCons 27 F_bytes_Compare (bytes_Compare) (orcCons 10 F_espalierref_OrderOf (self_espalierref_OrderOf) (orcNil))
omit [UDef] [UTabs] in
theorem O_espalierref_OrderOf_ok {ρ : Type} (self_espalierref_OrderOf : Ev.Val × Ev.Val × Unit → Option (Int × Unit)) (h_espalierref_OrderOf : Contract Tryd.prog 10 F_espalierref_OrderOf self_espalierref_OrderOf) (n : Nat) : (O_espalierref_OrderOf self_espalierref_OrderOf n : Orc ρ).ok Tryd.prog := orcCons_ok (by kernel_rfl) (ok_bytes_Compare) (orcCons_ok (by kernel_rfl) (h_espalierref_OrderOf) (orcNil_ok))
noncomputable def T_espalierref_OrderOf_s1 : Tm := ⟨[(2, .ptr 2 0), (3, .ptr 3 0)], [(5, .i64)], [(2, .box [.d .val]), (3, .box [.d .val])]⟩
noncomputable def X_espalierref_OrderOf_s1 : Tm := ⟨[(2, .ptr 2 0), (3, .ptr 3 0)], [], [(2, .box [.d .val]), (3, .box [.d .val])]⟩
noncomputable def R_espalierref_OrderOf_s1 : Tm := ⟨[], [(4, .i64)], []⟩
noncomputable def L_espalierref_OrderOf_s1 {ρ : Type} (self_espalierref_OrderOf : Ev.Val × Ev.Val × Unit → Option (Int × Unit)) (n : Nat) : LOrc ρ := lorcNil
omit [Tabs] [QuietD Tryd.prog] [UDef] [UTabs] in
theorem s_espalierref_OrderOf_s1 {ρ : Type} (self_espalierref_OrderOf : Ev.Val × Ev.Val × Unit → Option (Int × Unit)) (n : Nat) (rec : T_espalierref_OrderOf_s1.den → Option ρ) kx kr s : dStep Tryd.prog 88 TT M_espalierref_OrderOf (O_espalierref_OrderOf self_espalierref_OrderOf n) (L_espalierref_OrderOf_s1 self_espalierref_OrderOf n) (evDraw Tryd.prog 88 TT M_espalierref_OrderOf (O_espalierref_OrderOf self_espalierref_OrderOf n)) 1 (lbody 1000 C_espalierref_OrderOf 0) T_espalierref_OrderOf_s1 X_espalierref_OrderOf_s1 R_espalierref_OrderOf_s1 ⟨[], [], []⟩ rec kx kr s = espalierref_OrderOf_s1 self_espalierref_OrderOf n rec kx kr s := by kernel_rfl
noncomputable def L_espalierref_OrderOf {ρ : Type} (self_espalierref_OrderOf : Ev.Val × Ev.Val × Unit → Option (Int × Unit)) (n : Nat) : LOrc ρ := lorcCons 1 (loopL 88 1 n T_espalierref_OrderOf_s1 X_espalierref_OrderOf_s1 R_espalierref_OrderOf_s1 ⟨[], [], []⟩ (espalierref_OrderOf_s1 self_espalierref_OrderOf n)) (lorcNil)
omit [Tabs] [QuietD Tryd.prog] [UDef] [UTabs] in
theorem e_espalierref_OrderOf (self_espalierref_OrderOf : Ev.Val × Ev.Val × Unit → Option (Int × Unit)) (n : Nat) (x) : evF Tryd.prog 88 TT M_espalierref_OrderOf F_espalierref_OrderOf (O_espalierref_OrderOf self_espalierref_OrderOf n) (L_espalierref_OrderOf self_espalierref_OrderOf n) (evDraw Tryd.prog 88 TT M_espalierref_OrderOf (O_espalierref_OrderOf self_espalierref_OrderOf n)) ⟨[], [], []⟩ [.tmp 4] C_espalierref_OrderOf x = espalierref_OrderOf_b self_espalierref_OrderOf n x := by kernel_rfl
omit [UDef] [UTabs] in
theorem okb_espalierref_OrderOf (self_espalierref_OrderOf : Ev.Val × Ev.Val × Unit → Option (Int × Unit)) (h_espalierref_OrderOf : Contract Tryd.prog 10 F_espalierref_OrderOf self_espalierref_OrderOf) (n : Nat) : Contract Tryd.prog 10 F_espalierref_OrderOf (espalierref_OrderOf_b self_espalierref_OrderOf n) :=
  Contract.of_ev (c := C_espalierref_OrderOf) (N := 88) Tryd.func10 (by kernel_rfl) (by kernel_rfl) (by kernel_rfl) (by kernel_rfl) (O_espalierref_OrderOf_ok self_espalierref_OrderOf h_espalierref_OrderOf n) (evDraw_ok (O_espalierref_OrderOf_ok self_espalierref_OrderOf h_espalierref_OrderOf n) (by kernel_rfl)) (.of (l := [(1, (lbody 1000 C_espalierref_OrderOf 0))]) (by kernel_rfl) ⟨.head (loopL_sound (O_espalierref_OrderOf_ok self_espalierref_OrderOf h_espalierref_OrderOf n) (evDraw_ok (O_espalierref_OrderOf_ok self_espalierref_OrderOf h_espalierref_OrderOf n) (by kernel_rfl)) (.of (l := []) (by kernel_rfl) trivial) (s_espalierref_OrderOf_s1 self_espalierref_OrderOf n)), trivial⟩) (e_espalierref_OrderOf self_espalierref_OrderOf n)
omit [UDef] [UTabs] in
theorem ok_espalierref_OrderOf : ∀ n, Contract Tryd.prog 10 F_espalierref_OrderOf (espalierref_OrderOf n)
  | 0 => fun _ _ h => by cases h
  | n + 1 => okb_espalierref_OrderOf _ (ok_espalierref_OrderOf n) n

noncomputable def C_espalierref_SameValue : Code := bodyOf Tryd.f11
noncomputable def M_espalierref_SameValue : List (Nat × ArgM) := [(10, ⟨[], [], [], true⟩)]
instance : DfOk M_espalierref_SameValue := .none rfl
noncomputable def O_espalierref_SameValue {ρ : Type} (n : Nat) : Orc ρ := orcCons 10 F_espalierref_OrderOf (espalierref_OrderOf n) (orcNil)
omit [UDef] [UTabs] in
theorem O_espalierref_SameValue_ok {ρ : Type} (n : Nat) : (O_espalierref_SameValue n : Orc ρ).ok Tryd.prog := orcCons_ok (by kernel_rfl) (ok_espalierref_OrderOf n) (orcNil_ok)
noncomputable def L_espalierref_SameValue {ρ : Type} (n : Nat) : LOrc ρ := lorcNil
omit [Tabs] [QuietD Tryd.prog] [UDef] [UTabs] in
theorem e_espalierref_SameValue (n : Nat) (x) : evF Tryd.prog 9 TT M_espalierref_SameValue F_espalierref_SameValue (O_espalierref_SameValue n) (L_espalierref_SameValue n) dorcNil ⟨[], [], []⟩ [.tmp 4] C_espalierref_SameValue x = espalierref_SameValue n x := by kernel_rfl
omit [UDef] [UTabs] in
theorem ok_espalierref_SameValue (n : Nat) : Contract Tryd.prog 11 F_espalierref_SameValue (espalierref_SameValue n) :=
  Contract.of_ev (c := C_espalierref_SameValue) (N := 9) Tryd.func11 (by kernel_rfl) (by kernel_rfl) (by kernel_rfl) (by kernel_rfl) (O_espalierref_SameValue_ok n) dorcNil_ok (.of (l := []) (by kernel_rfl) trivial) (e_espalierref_SameValue n)

noncomputable def C_espalierlaw_valued : Code := bodyOf Tryd.f8
noncomputable def M_espalierlaw_valued : List (Nat × ArgM) := [(17, ⟨[], [], [], true⟩), (11, ⟨[], [], [], true⟩)]
instance : DfOk M_espalierlaw_valued := .none rfl
noncomputable def O_espalierlaw_valued {ρ : Type} (n : Nat) : Orc ρ := orcCons 19 F_espalierlaw_num (espalierlaw_num) (orcCons 22 F_espalierlaw_str (espalierlaw_str) (orcCons 21 F_espalierlaw_list (espalierlaw_list) (orcCons 17 F_value_Print (value_Print n) (orcCons 18 F_value_Parse (value_Parse n) (orcCons 11 F_espalierref_SameValue (espalierref_SameValue n) (orcNil))))))
theorem O_espalierlaw_valued_ok {ρ : Type} (n : Nat) : (O_espalierlaw_valued n : Orc ρ).ok Tryd.prog := orcCons_ok (by kernel_rfl) (ok_espalierlaw_num) (orcCons_ok (by kernel_rfl) (ok_espalierlaw_str) (orcCons_ok (by kernel_rfl) (ok_espalierlaw_list) (orcCons_ok (by kernel_rfl) (ok_value_Print n) (orcCons_ok (by kernel_rfl) (ok_value_Parse n) (orcCons_ok (by kernel_rfl) (ok_espalierref_SameValue n) (orcNil_ok))))))
noncomputable def L_espalierlaw_valued {ρ : Type} (n : Nat) : LOrc ρ := lorcNil
omit [Tabs] [QuietD Tryd.prog] [UDef] [UTabs] in
theorem e_espalierlaw_valued (n : Nat) (x) : evF Tryd.prog 43 TT M_espalierlaw_valued F_espalierlaw_valued (O_espalierlaw_valued n) (L_espalierlaw_valued n) (evDraw Tryd.prog 43 TT M_espalierlaw_valued (O_espalierlaw_valued n)) ⟨[], [], []⟩ [.tmp 0] C_espalierlaw_valued x = espalierlaw_valued n x := by kernel_rfl
theorem ok_espalierlaw_valued (n : Nat) : Contract Tryd.prog 8 F_espalierlaw_valued (espalierlaw_valued n) :=
  Contract.of_ev (c := C_espalierlaw_valued) (N := 43) Tryd.func8 (by kernel_rfl) (by kernel_rfl) (by kernel_rfl) (by kernel_rfl) (O_espalierlaw_valued_ok n) (evDraw_ok (O_espalierlaw_valued_ok n) (by kernel_rfl)) (.of (l := []) (by kernel_rfl) trivial) (e_espalierlaw_valued n)

noncomputable def F_value_Order : FnT := ⟨2, ⟨[], [(0, .val), (1, .val)], []⟩, [.v .i64], []⟩
noncomputable def F_cmp_Compare_int : FnT := ⟨2, ⟨[], [(0, .i64), (1, .i64)], []⟩, [.v .i64], []⟩
noncomputable def F_cmp_isNaN_int : FnT := ⟨1, ⟨[], [(0, .i64)], []⟩, [.v .bool], []⟩
noncomputable def C_cmp_isNaN_int : Code := bodyOf Tryd.f40
noncomputable def M_cmp_isNaN_int : List (Nat × ArgM) := []
instance : DfOk M_cmp_isNaN_int := .none rfl
noncomputable def O_cmp_isNaN_int {ρ : Type} : Orc ρ := orcNil
omit [QuietD Tryd.prog] [UDef] [UTabs] in
theorem O_cmp_isNaN_int_ok {ρ : Type} : (O_cmp_isNaN_int : Orc ρ).ok Tryd.prog := orcNil_ok
noncomputable def L_cmp_isNaN_int {ρ : Type} : LOrc ρ := lorcNil
omit [Tabs] [QuietD Tryd.prog] [UDef] [UTabs] in
theorem e_cmp_isNaN_int (x) : evF Tryd.prog 6 TT M_cmp_isNaN_int F_cmp_isNaN_int (O_cmp_isNaN_int) (L_cmp_isNaN_int) dorcNil ⟨[], [], []⟩ [.tmp 2] C_cmp_isNaN_int x = cmp_isNaN_int x := by kernel_rfl
omit [UDef] [UTabs] in
theorem ok_cmp_isNaN_int : Contract Tryd.prog 40 F_cmp_isNaN_int (cmp_isNaN_int) :=
  Contract.of_ev (c := C_cmp_isNaN_int) (N := 6) Tryd.func40 (by kernel_rfl) (by kernel_rfl) (by kernel_rfl) (by kernel_rfl) (O_cmp_isNaN_int_ok) dorcNil_ok (.of (l := []) (by kernel_rfl) trivial) (e_cmp_isNaN_int)

noncomputable def C_cmp_Compare_int : Code := bodyOf Tryd.f23
noncomputable def M_cmp_Compare_int : List (Nat × ArgM) := [(40, ⟨[], [], [], true⟩)]
instance : DfOk M_cmp_Compare_int := .none rfl
noncomputable def O_cmp_Compare_int {ρ : Type} : Orc ρ := orcCons 40 F_cmp_isNaN_int (cmp_isNaN_int) (orcNil)
omit [UDef] [UTabs] in
theorem O_cmp_Compare_int_ok {ρ : Type} : (O_cmp_Compare_int : Orc ρ).ok Tryd.prog := orcCons_ok (by kernel_rfl) (ok_cmp_isNaN_int) (orcNil_ok)
noncomputable def L_cmp_Compare_int {ρ : Type} : LOrc ρ := lorcNil
omit [Tabs] [QuietD Tryd.prog] [UDef] [UTabs] in
theorem e_cmp_Compare_int (x) : evF Tryd.prog 20 TT M_cmp_Compare_int F_cmp_Compare_int (O_cmp_Compare_int) (L_cmp_Compare_int) dorcNil ⟨[], [], []⟩ [.tmp 4] C_cmp_Compare_int x = cmp_Compare_int x := by kernel_rfl
omit [UDef] [UTabs] in
theorem ok_cmp_Compare_int : Contract Tryd.prog 23 F_cmp_Compare_int (cmp_Compare_int) :=
  Contract.of_ev (c := C_cmp_Compare_int) (N := 20) Tryd.func23 (by kernel_rfl) (by kernel_rfl) (by kernel_rfl) (by kernel_rfl) (O_cmp_Compare_int_ok) dorcNil_ok (.of (l := []) (by kernel_rfl) trivial) (e_cmp_Compare_int)

noncomputable def F_cmp_Compare_string : FnT := ⟨2, ⟨[], [(0, .str), (1, .str)], []⟩, [.v .i64], []⟩
noncomputable def F_cmp_isNaN_string : FnT := ⟨1, ⟨[], [(0, .str)], []⟩, [.v .bool], []⟩
noncomputable def C_cmp_isNaN_string : Code := bodyOf Tryd.f41
noncomputable def M_cmp_isNaN_string : List (Nat × ArgM) := []
instance : DfOk M_cmp_isNaN_string := .none rfl
noncomputable def O_cmp_isNaN_string {ρ : Type} : Orc ρ := orcNil
omit [QuietD Tryd.prog] [UDef] [UTabs] in
theorem O_cmp_isNaN_string_ok {ρ : Type} : (O_cmp_isNaN_string : Orc ρ).ok Tryd.prog := orcNil_ok
noncomputable def L_cmp_isNaN_string {ρ : Type} : LOrc ρ := lorcNil
omit [Tabs] [QuietD Tryd.prog] [UDef] [UTabs] in
theorem e_cmp_isNaN_string (x) : evF Tryd.prog 6 TT M_cmp_isNaN_string F_cmp_isNaN_string (O_cmp_isNaN_string) (L_cmp_isNaN_string) dorcNil ⟨[], [], []⟩ [.tmp 2] C_cmp_isNaN_string x = cmp_isNaN_string x := by kernel_rfl
omit [UDef] [UTabs] in
theorem ok_cmp_isNaN_string : Contract Tryd.prog 41 F_cmp_isNaN_string (cmp_isNaN_string) :=
  Contract.of_ev (c := C_cmp_isNaN_string) (N := 6) Tryd.func41 (by kernel_rfl) (by kernel_rfl) (by kernel_rfl) (by kernel_rfl) (O_cmp_isNaN_string_ok) dorcNil_ok (.of (l := []) (by kernel_rfl) trivial) (e_cmp_isNaN_string)

noncomputable def C_cmp_Compare_string : Code := bodyOf Tryd.f25
noncomputable def M_cmp_Compare_string : List (Nat × ArgM) := [(41, ⟨[], [], [], true⟩)]
instance : DfOk M_cmp_Compare_string := .none rfl
noncomputable def O_cmp_Compare_string {ρ : Type} : Orc ρ := orcCons 41 F_cmp_isNaN_string (cmp_isNaN_string) (orcNil)
omit [UDef] [UTabs] in
theorem O_cmp_Compare_string_ok {ρ : Type} : (O_cmp_Compare_string : Orc ρ).ok Tryd.prog := orcCons_ok (by kernel_rfl) (ok_cmp_isNaN_string) (orcNil_ok)
noncomputable def L_cmp_Compare_string {ρ : Type} : LOrc ρ := lorcNil
omit [Tabs] [QuietD Tryd.prog] [UDef] [UTabs] in
theorem e_cmp_Compare_string (x) : evF Tryd.prog 20 TT M_cmp_Compare_string F_cmp_Compare_string (O_cmp_Compare_string) (L_cmp_Compare_string) dorcNil ⟨[], [], []⟩ [.tmp 4] C_cmp_Compare_string x = cmp_Compare_string x := by kernel_rfl
omit [UDef] [UTabs] in
theorem ok_cmp_Compare_string : Contract Tryd.prog 25 F_cmp_Compare_string (cmp_Compare_string) :=
  Contract.of_ev (c := C_cmp_Compare_string) (N := 20) Tryd.func25 (by kernel_rfl) (by kernel_rfl) (by kernel_rfl) (by kernel_rfl) (O_cmp_Compare_string_ok) dorcNil_ok (.of (l := []) (by kernel_rfl) trivial) (e_cmp_Compare_string)

noncomputable def F_slices_CompareFunc_api_Value_api_Value_api_Value_api_Value_value_Order : FnT := ⟨3, ⟨[(2, .fn 9)], [(0, (.lst .val)), (1, (.lst .val))], []⟩, [.v .i64], []⟩
noncomputable def C_slices_CompareFunc_api_Value_api_Value_api_Value_api_Value_value_Order : Code := bodyOf Tryd.f26
noncomputable def M_slices_CompareFunc_api_Value_api_Value_api_Value_api_Value_value_Order : List (Nat × ArgM) := [(9, ⟨[], [], [], true⟩)]
instance : DfOk M_slices_CompareFunc_api_Value_api_Value_api_Value_api_Value_value_Order := .none rfl
noncomputable def O_slices_CompareFunc_api_Value_api_Value_api_Value_api_Value_value_Order {ρ : Type} (self_value_Order : Ev.Val × Ev.Val × Unit → Option (Int × Unit)) (n : Nat) : Orc ρ := orcCons 9 F_value_Order (self_value_Order) (orcNil)
omit [QuietD Tryd.prog] [UDef] [UTabs] in
theorem O_slices_CompareFunc_api_Value_api_Value_api_Value_api_Value_value_Order_ok {ρ : Type} (self_value_Order : Ev.Val × Ev.Val × Unit → Option (Int × Unit)) (h_value_Order : Contract Tryd.prog 9 F_value_Order self_value_Order) (n : Nat) : (O_slices_CompareFunc_api_Value_api_Value_api_Value_api_Value_value_Order self_value_Order n : Orc ρ).ok Tryd.prog := orcCons_ok (by kernel_rfl) (h_value_Order) (orcNil_ok)
noncomputable def T_slices_CompareFunc_api_Value_api_Value_api_Value_api_Value_value_Order_s0 : Tm := ⟨[(2, .fn 9)], [(0, (.lst .val)), (1, (.lst .val)), (11, (.lst .val)), (12, .i64), (13, .i64)], []⟩
noncomputable def X_slices_CompareFunc_api_Value_api_Value_api_Value_api_Value_value_Order_s0 : Tm := ⟨[], [(0, (.lst .val)), (1, (.lst .val))], []⟩
noncomputable def R_slices_CompareFunc_api_Value_api_Value_api_Value_api_Value_value_Order_s0 : Tm := ⟨[], [(6, .i64)], []⟩
noncomputable def L_slices_CompareFunc_api_Value_api_Value_api_Value_api_Value_value_Order_s0 {ρ : Type} (self_value_Order : Ev.Val × Ev.Val × Unit → Option (Int × Unit)) (n : Nat) : LOrc ρ := lorcNil
omit [Tabs] [QuietD Tryd.prog] [UDef] [UTabs] in
theorem s_slices_CompareFunc_api_Value_api_Value_api_Value_api_Value_value_Order_s0 {ρ : Type} (self_value_Order : Ev.Val × Ev.Val × Unit → Option (Int × Unit)) (n : Nat) (rec : T_slices_CompareFunc_api_Value_api_Value_api_Value_api_Value_value_Order_s0.den → Option ρ) kx kr s : dStep Tryd.prog 39 TT M_slices_CompareFunc_api_Value_api_Value_api_Value_api_Value_value_Order (O_slices_CompareFunc_api_Value_api_Value_api_Value_api_Value_value_Order self_value_Order n) (L_slices_CompareFunc_api_Value_api_Value_api_Value_api_Value_value_Order_s0 self_value_Order n) dorcNil 0 (lbody 1000 C_slices_CompareFunc_api_Value_api_Value_api_Value_api_Value_value_Order 0) T_slices_CompareFunc_api_Value_api_Value_api_Value_api_Value_value_Order_s0 X_slices_CompareFunc_api_Value_api_Value_api_Value_api_Value_value_Order_s0 R_slices_CompareFunc_api_Value_api_Value_api_Value_api_Value_value_Order_s0 ⟨[], [], []⟩ rec kx kr s = slices_CompareFunc_api_Value_api_Value_api_Value_api_Value_value_Order_s0 self_value_Order n rec kx kr s := by kernel_rfl
noncomputable def L_slices_CompareFunc_api_Value_api_Value_api_Value_api_Value_value_Order {ρ : Type} (self_value_Order : Ev.Val × Ev.Val × Unit → Option (Int × Unit)) (n : Nat) : LOrc ρ := lorcCons 0 (loopL 39 0 n T_slices_CompareFunc_api_Value_api_Value_api_Value_api_Value_value_Order_s0 X_slices_CompareFunc_api_Value_api_Value_api_Value_api_Value_value_Order_s0 R_slices_CompareFunc_api_Value_api_Value_api_Value_api_Value_value_Order_s0 ⟨[], [], []⟩ (slices_CompareFunc_api_Value_api_Value_api_Value_api_Value_value_Order_s0 self_value_Order n)) (lorcNil)
omit [Tabs] [QuietD Tryd.prog] [UDef] [UTabs] in
theorem e_slices_CompareFunc_api_Value_api_Value_api_Value_api_Value_value_Order (self_value_Order : Ev.Val × Ev.Val × Unit → Option (Int × Unit)) (n : Nat) (x) : evF Tryd.prog 39 TT M_slices_CompareFunc_api_Value_api_Value_api_Value_api_Value_value_Order F_slices_CompareFunc_api_Value_api_Value_api_Value_api_Value_value_Order (O_slices_CompareFunc_api_Value_api_Value_api_Value_api_Value_value_Order self_value_Order n) (L_slices_CompareFunc_api_Value_api_Value_api_Value_api_Value_value_Order self_value_Order n) dorcNil ⟨[], [], []⟩ [.tmp 6] C_slices_CompareFunc_api_Value_api_Value_api_Value_api_Value_value_Order x = slices_CompareFunc_api_Value_api_Value_api_Value_api_Value_value_Order self_value_Order n x := by kernel_rfl
omit [UDef] [UTabs] in
theorem ok_slices_CompareFunc_api_Value_api_Value_api_Value_api_Value_value_Order (self_value_Order : Ev.Val × Ev.Val × Unit → Option (Int × Unit)) (h_value_Order : Contract Tryd.prog 9 F_value_Order self_value_Order) (n : Nat) : Contract Tryd.prog 26 F_slices_CompareFunc_api_Value_api_Value_api_Value_api_Value_value_Order (slices_CompareFunc_api_Value_api_Value_api_Value_api_Value_value_Order self_value_Order n) :=
  Contract.of_ev (c := C_slices_CompareFunc_api_Value_api_Value_api_Value_api_Value_value_Order) (N := 39) Tryd.func26 (by kernel_rfl) (by kernel_rfl) (by kernel_rfl) (by kernel_rfl) (O_slices_CompareFunc_api_Value_api_Value_api_Value_api_Value_value_Order_ok self_value_Order h_value_Order n) dorcNil_ok (.of (l := [(0, (lbody 1000 C_slices_CompareFunc_api_Value_api_Value_api_Value_api_Value_value_Order 0))]) (by kernel_rfl) ⟨.head (loopL_sound (O_slices_CompareFunc_api_Value_api_Value_api_Value_api_Value_value_Order_ok self_value_Order h_value_Order n) dorcNil_ok (.of (l := []) (by kernel_rfl) trivial) (s_slices_CompareFunc_api_Value_api_Value_api_Value_api_Value_value_Order_s0 self_value_Order n)), trivial⟩) (e_slices_CompareFunc_api_Value_api_Value_api_Value_api_Value_value_Order self_value_Order n)

noncomputable def F_cmp_Or_int : FnT := ⟨1, ⟨[], [(0, (.lst .i64))], []⟩, [.v .i64], []⟩
noncomputable def C_cmp_Or_int : Code := bodyOf Tryd.f24
noncomputable def M_cmp_Or_int : List (Nat × ArgM) := []
instance : DfOk M_cmp_Or_int := .none rfl
noncomputable def O_cmp_Or_int {ρ : Type} (n : Nat) : Orc ρ := orcNil
omit [QuietD Tryd.prog] [UDef] [UTabs] in
theorem O_cmp_Or_int_ok {ρ : Type} (n : Nat) : (O_cmp_Or_int n : Orc ρ).ok Tryd.prog := orcNil_ok
noncomputable def T_cmp_Or_int_s0 : Tm := ⟨[], [(3, .i64), (6, (.lst .i64)), (7, .i64), (8, .i64)], []⟩
noncomputable def X_cmp_Or_int_s0 : Tm := ⟨[], [(3, .i64)], []⟩
noncomputable def R_cmp_Or_int_s0 : Tm := ⟨[], [(2, .i64)], []⟩
noncomputable def L_cmp_Or_int_s0 {ρ : Type} (n : Nat) : LOrc ρ := lorcNil
omit [Tabs] [QuietD Tryd.prog] [UDef] [UTabs] in
theorem s_cmp_Or_int_s0 {ρ : Type} (n : Nat) (rec : T_cmp_Or_int_s0.den → Option ρ) kx kr s : dStep Tryd.prog 18 TT M_cmp_Or_int (O_cmp_Or_int n) (L_cmp_Or_int_s0 n) dorcNil 0 (lbody 1000 C_cmp_Or_int 0) T_cmp_Or_int_s0 X_cmp_Or_int_s0 R_cmp_Or_int_s0 ⟨[], [], []⟩ rec kx kr s = cmp_Or_int_s0 n rec kx kr s := by kernel_rfl
noncomputable def L_cmp_Or_int {ρ : Type} (n : Nat) : LOrc ρ := lorcCons 0 (loopL 18 0 n T_cmp_Or_int_s0 X_cmp_Or_int_s0 R_cmp_Or_int_s0 ⟨[], [], []⟩ (cmp_Or_int_s0 n)) (lorcNil)
omit [Tabs] [QuietD Tryd.prog] [UDef] [UTabs] in
theorem e_cmp_Or_int (n : Nat) (x) : evF Tryd.prog 18 TT M_cmp_Or_int F_cmp_Or_int (O_cmp_Or_int n) (L_cmp_Or_int n) dorcNil ⟨[], [], []⟩ [.tmp 2] C_cmp_Or_int x = cmp_Or_int n x := by kernel_rfl
omit [UDef] [UTabs] in
theorem ok_cmp_Or_int (n : Nat) : Contract Tryd.prog 24 F_cmp_Or_int (cmp_Or_int n) :=
  Contract.of_ev (c := C_cmp_Or_int) (N := 18) Tryd.func24 (by kernel_rfl) (by kernel_rfl) (by kernel_rfl) (by kernel_rfl) (O_cmp_Or_int_ok n) dorcNil_ok (.of (l := [(0, (lbody 1000 C_cmp_Or_int 0))]) (by kernel_rfl) ⟨.head (loopL_sound (O_cmp_Or_int_ok n) dorcNil_ok (.of (l := []) (by kernel_rfl) trivial) (s_cmp_Or_int_s0 n)), trivial⟩) (e_cmp_Or_int n)

noncomputable def C_value_Order : Code := bodyOf Tryd.f9
noncomputable def M_value_Order : List (Nat × ArgM) := [(23, ⟨[], [], [], true⟩), (25, ⟨[], [], [], true⟩), (26, ⟨[], [], [], true⟩), (24, ⟨[], [], [], true⟩)]
instance : DfOk M_value_Order := .none rfl
noncomputable def O_value_Order {ρ : Type} (self_value_Order : Ev.Val × Ev.Val × Unit → Option (Int × Unit)) (n : Nat) : Orc ρ := orcCons 23 F_cmp_Compare_int (cmp_Compare_int) (orcCons 25 F_cmp_Compare_string (cmp_Compare_string) (orcCons 26 F_slices_CompareFunc_api_Value_api_Value_api_Value_api_Value_value_Order (slices_CompareFunc_api_Value_api_Value_api_Value_api_Value_value_Order self_value_Order n) (orcCons 24 F_cmp_Or_int (cmp_Or_int n) (orcNil))))
omit [UDef] [UTabs] in
theorem O_value_Order_ok {ρ : Type} (self_value_Order : Ev.Val × Ev.Val × Unit → Option (Int × Unit)) (h_value_Order : Contract Tryd.prog 9 F_value_Order self_value_Order) (n : Nat) : (O_value_Order self_value_Order n : Orc ρ).ok Tryd.prog := orcCons_ok (by kernel_rfl) (ok_cmp_Compare_int) (orcCons_ok (by kernel_rfl) (ok_cmp_Compare_string) (orcCons_ok (by kernel_rfl) (ok_slices_CompareFunc_api_Value_api_Value_api_Value_api_Value_value_Order _ h_value_Order n) (orcCons_ok (by kernel_rfl) (ok_cmp_Or_int n) (orcNil_ok))))
noncomputable def L_value_Order {ρ : Type} (self_value_Order : Ev.Val × Ev.Val × Unit → Option (Int × Unit)) (n : Nat) : LOrc ρ := lorcNil
omit [Tabs] [QuietD Tryd.prog] [UDef] [UTabs] in
theorem e_value_Order (self_value_Order : Ev.Val × Ev.Val × Unit → Option (Int × Unit)) (n : Nat) (x) : evF Tryd.prog 31 TT M_value_Order F_value_Order (O_value_Order self_value_Order n) (L_value_Order self_value_Order n) (evDraw Tryd.prog 31 TT M_value_Order (O_value_Order self_value_Order n)) ⟨[], [], []⟩ [.tmp 4] C_value_Order x = value_Order_b self_value_Order n x := by kernel_rfl
omit [UDef] [UTabs] in
theorem okb_value_Order (self_value_Order : Ev.Val × Ev.Val × Unit → Option (Int × Unit)) (h_value_Order : Contract Tryd.prog 9 F_value_Order self_value_Order) (n : Nat) : Contract Tryd.prog 9 F_value_Order (value_Order_b self_value_Order n) :=
  Contract.of_ev (c := C_value_Order) (N := 31) Tryd.func9 (by kernel_rfl) (by kernel_rfl) (by kernel_rfl) (by kernel_rfl) (O_value_Order_ok self_value_Order h_value_Order n) (evDraw_ok (O_value_Order_ok self_value_Order h_value_Order n) (by kernel_rfl)) (.of (l := []) (by kernel_rfl) trivial) (e_value_Order self_value_Order n)
omit [UDef] [UTabs] in
theorem ok_value_Order : ∀ n, Contract Tryd.prog 9 F_value_Order (value_Order n)
  | 0 => fun _ _ h => by cases h
  | n + 1 => okb_value_Order _ (ok_value_Order n) n

noncomputable def F_value_Same : FnT := ⟨2, ⟨[], [(0, .val), (1, .val)], []⟩, [.v .val], []⟩
noncomputable def C_value_Same : Code := bodyOf Tryd.f12
noncomputable def M_value_Same : List (Nat × ArgM) := [(9, ⟨[], [], [], true⟩)]
instance : DfOk M_value_Same := .none rfl
noncomputable def O_value_Same {ρ : Type} (self_value_Same : Ev.Val × Ev.Val × Unit → Option (Ev.Val × Unit)) (n : Nat) : Orc ρ := orcCons 9 F_value_Order (value_Order n) (orcCons 28 F_value_truth (value_truth) (orcCons 12 F_value_Same (self_value_Same) (orcNil)))
omit [UDef] [UTabs] in
theorem O_value_Same_ok {ρ : Type} (self_value_Same : Ev.Val × Ev.Val × Unit → Option (Ev.Val × Unit)) (h_value_Same : Contract Tryd.prog 12 F_value_Same self_value_Same) (n : Nat) : (O_value_Same self_value_Same n : Orc ρ).ok Tryd.prog := orcCons_ok (by kernel_rfl) (ok_value_Order n) (orcCons_ok (by kernel_rfl) (ok_value_truth) (orcCons_ok (by kernel_rfl) (h_value_Same) (orcNil_ok)))
noncomputable def T_value_Same_s0 : Tm := ⟨[(2, .ptr 2 0), (3, .ptr 3 0), (4, .ptr 4 0), (5, .ptr 5 0)], [(41, .i64), (42, .i64)], [(2, .box [.d .val]), (3, .box [.d .val]), (4, .box [.d .val]), (5, .box [.d .val])]⟩
noncomputable def X_value_Same_s0 : Tm := ⟨[(4, .ptr 4 0), (5, .ptr 5 0)], [], [(4, .box [.d .val]), (5, .box [.d .val])]⟩
noncomputable def R_value_Same_s0 : Tm := ⟨[(4, .ptr 4 0)], [], [(4, .box [.d .val])]⟩
noncomputable def L_value_Same_s0 {ρ : Type} (self_value_Same : Ev.Val × Ev.Val × Unit → Option (Ev.Val × Unit)) (n : Nat) : LOrc ρ := lorcNil
omit [Tabs] [QuietD Tryd.prog] [UDef] [UTabs] in
theorem s_value_Same_s0 {ρ : Type} (self_value_Same : Ev.Val × Ev.Val × Unit → Option (Ev.Val × Unit)) (n : Nat) (rec : T_value_Same_s0.den → Option ρ) kx kr s : dStep Tryd.prog 68 TT M_value_Same (O_value_Same self_value_Same n) (L_value_Same_s0 self_value_Same n) (evDraw Tryd.prog 68 TT M_value_Same (O_value_Same self_value_Same n)) 0 (lbody 1000 C_value_Same 0) T_value_Same_s0 X_value_Same_s0 R_value_Same_s0 ⟨[], [], []⟩ rec kx kr s = value_Same_s0 self_value_Same n rec kx kr s := by kernel_rfl
noncomputable def L_value_Same {ρ : Type} (self_value_Same : Ev.Val × Ev.Val × Unit → Option (Ev.Val × Unit)) (n : Nat) : LOrc ρ := lorcCons 0 (loopL 68 0 n T_value_Same_s0 X_value_Same_s0 R_value_Same_s0 ⟨[], [], []⟩ (value_Same_s0 self_value_Same n)) (lorcNil)
omit [Tabs] [QuietD Tryd.prog] [UDef] [UTabs] in
theorem e_value_Same (self_value_Same : Ev.Val × Ev.Val × Unit → Option (Ev.Val × Unit)) (n : Nat) (x) : evF Tryd.prog 68 TT M_value_Same F_value_Same (O_value_Same self_value_Same n) (L_value_Same self_value_Same n) (evDraw Tryd.prog 68 TT M_value_Same (O_value_Same self_value_Same n)) ⟨[], [], []⟩ [.cell 4 24] C_value_Same x = value_Same_b self_value_Same n x := by kernel_rfl
omit [UDef] [UTabs] in
theorem okb_value_Same (self_value_Same : Ev.Val × Ev.Val × Unit → Option (Ev.Val × Unit)) (h_value_Same : Contract Tryd.prog 12 F_value_Same self_value_Same) (n : Nat) : Contract Tryd.prog 12 F_value_Same (value_Same_b self_value_Same n) :=
  Contract.of_ev (c := C_value_Same) (N := 68) Tryd.func12 (by kernel_rfl) (by kernel_rfl) (by kernel_rfl) (by kernel_rfl) (O_value_Same_ok self_value_Same h_value_Same n) (evDraw_ok (O_value_Same_ok self_value_Same h_value_Same n) (by kernel_rfl)) (.of (l := [(0, (lbody 1000 C_value_Same 0))]) (by kernel_rfl) ⟨.head (loopL_sound (O_value_Same_ok self_value_Same h_value_Same n) (evDraw_ok (O_value_Same_ok self_value_Same h_value_Same n) (by kernel_rfl)) (.of (l := []) (by kernel_rfl) trivial) (s_value_Same_s0 self_value_Same n)), trivial⟩) (e_value_Same self_value_Same n)
omit [UDef] [UTabs] in
theorem ok_value_Same : ∀ n, Contract Tryd.prog 12 F_value_Same (value_Same n)
  | 0 => fun _ _ h => by cases h
  | n + 1 => okb_value_Same _ (ok_value_Same n) n

noncomputable def F_espalierref_SameOf : FnT := ⟨2, ⟨[], [(0, .val), (1, .val)], []⟩, [.v .val], []⟩
noncomputable def F_espalierref_Truth : FnT := ⟨1, ⟨[], [(0, .i64)], []⟩, [.v .val], []⟩
noncomputable def C_espalierref_Truth : Code := bodyOf Tryd.f29
noncomputable def M_espalierref_Truth : List (Nat × ArgM) := []
instance : DfOk M_espalierref_Truth := .none rfl
noncomputable def O_espalierref_Truth {ρ : Type} : Orc ρ := orcNil
omit [QuietD Tryd.prog] [UDef] [UTabs] in
theorem O_espalierref_Truth_ok {ρ : Type} : (O_espalierref_Truth : Orc ρ).ok Tryd.prog := orcNil_ok
noncomputable def L_espalierref_Truth {ρ : Type} : LOrc ρ := lorcNil
omit [Tabs] [QuietD Tryd.prog] [UDef] [UTabs] in
theorem e_espalierref_Truth (x) : evF Tryd.prog 8 TT M_espalierref_Truth F_espalierref_Truth (O_espalierref_Truth) (L_espalierref_Truth) dorcNil ⟨[], [], []⟩ [.cell 2 24] C_espalierref_Truth x = espalierref_Truth x := by kernel_rfl
omit [UDef] [UTabs] in
theorem ok_espalierref_Truth : Contract Tryd.prog 29 F_espalierref_Truth (espalierref_Truth) :=
  Contract.of_ev (c := C_espalierref_Truth) (N := 8) Tryd.func29 (by kernel_rfl) (by kernel_rfl) (by kernel_rfl) (by kernel_rfl) (O_espalierref_Truth_ok) dorcNil_ok (.of (l := []) (by kernel_rfl) trivial) (e_espalierref_Truth)

noncomputable def C_espalierref_SameOf : Code := bodyOf Tryd.f13
noncomputable def M_espalierref_SameOf : List (Nat × ArgM) := [(11, ⟨[], [], [], true⟩)]
instance : DfOk M_espalierref_SameOf := .none rfl
noncomputable def O_espalierref_SameOf {ρ : Type} (self_espalierref_SameOf : Ev.Val × Ev.Val × Unit → Option (Ev.Val × Unit)) (n : Nat) : Orc ρ := orcCons 29 F_espalierref_Truth (espalierref_Truth) (orcCons 13 F_espalierref_SameOf (self_espalierref_SameOf) (orcCons 11 F_espalierref_SameValue (espalierref_SameValue n) (orcNil)))
omit [UDef] [UTabs] in
theorem O_espalierref_SameOf_ok {ρ : Type} (self_espalierref_SameOf : Ev.Val × Ev.Val × Unit → Option (Ev.Val × Unit)) (h_espalierref_SameOf : Contract Tryd.prog 13 F_espalierref_SameOf self_espalierref_SameOf) (n : Nat) : (O_espalierref_SameOf self_espalierref_SameOf n : Orc ρ).ok Tryd.prog := orcCons_ok (by kernel_rfl) (ok_espalierref_Truth) (orcCons_ok (by kernel_rfl) (h_espalierref_SameOf) (orcCons_ok (by kernel_rfl) (ok_espalierref_SameValue n) (orcNil_ok)))
noncomputable def T_espalierref_SameOf_s0 : Tm := ⟨[(2, .ptr 2 0), (3, .ptr 3 0), (4, .ptr 4 0)], [(5, .bool), (35, .i64), (36, .i64)], [(2, .box [.d .val]), (3, .box [.d .val]), (4, .box [.d .val])]⟩
noncomputable def X_espalierref_SameOf_s0 : Tm := ⟨[(4, .ptr 4 0)], [(5, .bool)], [(4, .box [.d .val])]⟩
noncomputable def R_espalierref_SameOf_s0 : Tm := ⟨[(4, .ptr 4 0)], [], [(4, .box [.d .val])]⟩
noncomputable def L_espalierref_SameOf_s0 {ρ : Type} (self_espalierref_SameOf : Ev.Val × Ev.Val × Unit → Option (Ev.Val × Unit)) (n : Nat) : LOrc ρ := lorcNil
omit [Tabs] [QuietD Tryd.prog] [UDef] [UTabs] in
theorem s_espalierref_SameOf_s0 {ρ : Type} (self_espalierref_SameOf : Ev.Val × Ev.Val × Unit → Option (Ev.Val × Unit)) (n : Nat) (rec : T_espalierref_SameOf_s0.den → Option ρ) kx kr s : dStep Tryd.prog 68 TT M_espalierref_SameOf (O_espalierref_SameOf self_espalierref_SameOf n) (L_espalierref_SameOf_s0 self_espalierref_SameOf n) (evDraw Tryd.prog 68 TT M_espalierref_SameOf (O_espalierref_SameOf self_espalierref_SameOf n)) 0 (lbody 1000 C_espalierref_SameOf 0) T_espalierref_SameOf_s0 X_espalierref_SameOf_s0 R_espalierref_SameOf_s0 ⟨[], [], []⟩ rec kx kr s = espalierref_SameOf_s0 self_espalierref_SameOf n rec kx kr s := by kernel_rfl
noncomputable def L_espalierref_SameOf {ρ : Type} (self_espalierref_SameOf : Ev.Val × Ev.Val × Unit → Option (Ev.Val × Unit)) (n : Nat) : LOrc ρ := lorcCons 0 (loopL 68 0 n T_espalierref_SameOf_s0 X_espalierref_SameOf_s0 R_espalierref_SameOf_s0 ⟨[], [], []⟩ (espalierref_SameOf_s0 self_espalierref_SameOf n)) (lorcNil)
omit [Tabs] [QuietD Tryd.prog] [UDef] [UTabs] in
theorem e_espalierref_SameOf (self_espalierref_SameOf : Ev.Val × Ev.Val × Unit → Option (Ev.Val × Unit)) (n : Nat) (x) : evF Tryd.prog 68 TT M_espalierref_SameOf F_espalierref_SameOf (O_espalierref_SameOf self_espalierref_SameOf n) (L_espalierref_SameOf self_espalierref_SameOf n) (evDraw Tryd.prog 68 TT M_espalierref_SameOf (O_espalierref_SameOf self_espalierref_SameOf n)) ⟨[], [], []⟩ [.cell 4 24] C_espalierref_SameOf x = espalierref_SameOf_b self_espalierref_SameOf n x := by kernel_rfl
omit [UDef] [UTabs] in
theorem okb_espalierref_SameOf (self_espalierref_SameOf : Ev.Val × Ev.Val × Unit → Option (Ev.Val × Unit)) (h_espalierref_SameOf : Contract Tryd.prog 13 F_espalierref_SameOf self_espalierref_SameOf) (n : Nat) : Contract Tryd.prog 13 F_espalierref_SameOf (espalierref_SameOf_b self_espalierref_SameOf n) :=
  Contract.of_ev (c := C_espalierref_SameOf) (N := 68) Tryd.func13 (by kernel_rfl) (by kernel_rfl) (by kernel_rfl) (by kernel_rfl) (O_espalierref_SameOf_ok self_espalierref_SameOf h_espalierref_SameOf n) (evDraw_ok (O_espalierref_SameOf_ok self_espalierref_SameOf h_espalierref_SameOf n) (by kernel_rfl)) (.of (l := [(0, (lbody 1000 C_espalierref_SameOf 0))]) (by kernel_rfl) ⟨.head (loopL_sound (O_espalierref_SameOf_ok self_espalierref_SameOf h_espalierref_SameOf n) (evDraw_ok (O_espalierref_SameOf_ok self_espalierref_SameOf h_espalierref_SameOf n) (by kernel_rfl)) (.of (l := []) (by kernel_rfl) trivial) (s_espalierref_SameOf_s0 self_espalierref_SameOf n)), trivial⟩) (e_espalierref_SameOf self_espalierref_SameOf n)
omit [UDef] [UTabs] in
theorem ok_espalierref_SameOf : ∀ n, Contract Tryd.prog 13 F_espalierref_SameOf (espalierref_SameOf n)
  | 0 => fun _ _ h => by cases h
  | n + 1 => okb_espalierref_SameOf _ (ok_espalierref_SameOf n) n

noncomputable def F_value_Less : FnT := ⟨2, ⟨[], [(0, .val), (1, .val)], []⟩, [.v .val], []⟩
noncomputable def C_value_Less : Code := bodyOf Tryd.f14
noncomputable def M_value_Less : List (Nat × ArgM) := [(9, ⟨[], [], [], true⟩)]
instance : DfOk M_value_Less := .none rfl
noncomputable def O_value_Less {ρ : Type} (n : Nat) : Orc ρ := orcCons 9 F_value_Order (value_Order n) (orcCons 28 F_value_truth (value_truth) (orcNil))
omit [UDef] [UTabs] in
theorem O_value_Less_ok {ρ : Type} (n : Nat) : (O_value_Less n : Orc ρ).ok Tryd.prog := orcCons_ok (by kernel_rfl) (ok_value_Order n) (orcCons_ok (by kernel_rfl) (ok_value_truth) (orcNil_ok))
noncomputable def L_value_Less {ρ : Type} (n : Nat) : LOrc ρ := lorcNil
omit [Tabs] [QuietD Tryd.prog] [UDef] [UTabs] in
theorem e_value_Less (n : Nat) (x) : evF Tryd.prog 26 TT M_value_Less F_value_Less (O_value_Less n) (L_value_Less n) dorcNil ⟨[], [], []⟩ [.cell 4 24] C_value_Less x = value_Less n x := by kernel_rfl
omit [UDef] [UTabs] in
theorem ok_value_Less (n : Nat) : Contract Tryd.prog 14 F_value_Less (value_Less n) :=
  Contract.of_ev (c := C_value_Less) (N := 26) Tryd.func14 (by kernel_rfl) (by kernel_rfl) (by kernel_rfl) (by kernel_rfl) (O_value_Less_ok n) dorcNil_ok (.of (l := []) (by kernel_rfl) trivial) (e_value_Less n)

noncomputable def F_espalierref_LessOf : FnT := ⟨2, ⟨[], [(0, .val), (1, .val)], []⟩, [.v .val], []⟩
noncomputable def C_espalierref_LessOf : Code := bodyOf Tryd.f15
noncomputable def M_espalierref_LessOf : List (Nat × ArgM) := [(10, ⟨[], [], [], true⟩)]
instance : DfOk M_espalierref_LessOf := .none rfl
noncomputable def O_espalierref_LessOf {ρ : Type} (n : Nat) : Orc ρ := orcCons 29 F_espalierref_Truth (espalierref_Truth) (orcCons 10 F_espalierref_OrderOf (espalierref_OrderOf n) (orcNil))
omit [UDef] [UTabs] in
theorem O_espalierref_LessOf_ok {ρ : Type} (n : Nat) : (O_espalierref_LessOf n : Orc ρ).ok Tryd.prog := orcCons_ok (by kernel_rfl) (ok_espalierref_Truth) (orcCons_ok (by kernel_rfl) (ok_espalierref_OrderOf n) (orcNil_ok))
noncomputable def L_espalierref_LessOf {ρ : Type} (n : Nat) : LOrc ρ := lorcNil
omit [Tabs] [QuietD Tryd.prog] [UDef] [UTabs] in
theorem e_espalierref_LessOf (n : Nat) (x) : evF Tryd.prog 27 TT M_espalierref_LessOf F_espalierref_LessOf (O_espalierref_LessOf n) (L_espalierref_LessOf n) dorcNil ⟨[], [], []⟩ [.cell 4 24] C_espalierref_LessOf x = espalierref_LessOf n x := by kernel_rfl
omit [UDef] [UTabs] in
theorem ok_espalierref_LessOf (n : Nat) : Contract Tryd.prog 15 F_espalierref_LessOf (espalierref_LessOf n) :=
  Contract.of_ev (c := C_espalierref_LessOf) (N := 27) Tryd.func15 (by kernel_rfl) (by kernel_rfl) (by kernel_rfl) (by kernel_rfl) (O_espalierref_LessOf_ok n) dorcNil_ok (.of (l := []) (by kernel_rfl) trivial) (e_espalierref_LessOf n)

noncomputable def C_espalierlaw_ValueOrder : Code := bodyOf Tryd.f3
noncomputable def M_espalierlaw_ValueOrder : List (Nat × ArgM) := [(8, ⟨[], [], [], true⟩), (9, ⟨[], [], [], true⟩), (10, ⟨[], [], [], true⟩), (11, ⟨[], [], [], true⟩)]
instance : DfOk M_espalierlaw_ValueOrder := .none rfl
noncomputable def O_espalierlaw_ValueOrder {ρ : Type} (n : Nat) : Orc ρ := orcCons 8 F_espalierlaw_valued (espalierlaw_valued n) (orcCons 9 F_value_Order (value_Order n) (orcCons 10 F_espalierref_OrderOf (espalierref_OrderOf n) (orcCons 12 F_value_Same (value_Same n) (orcCons 13 F_espalierref_SameOf (espalierref_SameOf n) (orcCons 11 F_espalierref_SameValue (espalierref_SameValue n) (orcCons 14 F_value_Less (value_Less n) (orcCons 15 F_espalierref_LessOf (espalierref_LessOf n) (orcNil))))))))
theorem O_espalierlaw_ValueOrder_ok {ρ : Type} (n : Nat) : (O_espalierlaw_ValueOrder n : Orc ρ).ok Tryd.prog := orcCons_ok (by kernel_rfl) (ok_espalierlaw_valued n) (orcCons_ok (by kernel_rfl) (ok_value_Order n) (orcCons_ok (by kernel_rfl) (ok_espalierref_OrderOf n) (orcCons_ok (by kernel_rfl) (ok_value_Same n) (orcCons_ok (by kernel_rfl) (ok_espalierref_SameOf n) (orcCons_ok (by kernel_rfl) (ok_espalierref_SameValue n) (orcCons_ok (by kernel_rfl) (ok_value_Less n) (orcCons_ok (by kernel_rfl) (ok_espalierref_LessOf n) (orcNil_ok))))))))
noncomputable def L_espalierlaw_ValueOrder {ρ : Type} (n : Nat) : LOrc ρ := lorcNil
omit [Tabs] [QuietD Tryd.prog] [UDef] [UTabs] in
theorem e_espalierlaw_ValueOrder (n : Nat) (x) : evF Tryd.prog 33 TT M_espalierlaw_ValueOrder F_espalierlaw_ValueOrder (O_espalierlaw_ValueOrder n) (L_espalierlaw_ValueOrder n) (evDraw Tryd.prog 33 TT M_espalierlaw_ValueOrder (O_espalierlaw_ValueOrder n)) ⟨[], [], []⟩ [.tmp 4] C_espalierlaw_ValueOrder x = espalierlaw_ValueOrder n x := by kernel_rfl
theorem ok_espalierlaw_ValueOrder (n : Nat) : Contract Tryd.prog 3 F_espalierlaw_ValueOrder (espalierlaw_ValueOrder n) :=
  Contract.of_ev (c := C_espalierlaw_ValueOrder) (N := 33) Tryd.func3 (by kernel_rfl) (by kernel_rfl) (by kernel_rfl) (by kernel_rfl) (O_espalierlaw_ValueOrder_ok n) (evDraw_ok (O_espalierlaw_ValueOrder_ok n) (by kernel_rfl)) (.of (l := []) (by kernel_rfl) trivial) (e_espalierlaw_ValueOrder n)

noncomputable def F_espalierlaw_ValueOrders : FnT := ⟨3, ⟨[], [(0, .val), (1, .val), (2, .val)], []⟩, [.v .bool], []⟩
noncomputable def C_espalierlaw_ValueOrders : Code := bodyOf Tryd.f4
noncomputable def M_espalierlaw_ValueOrders : List (Nat × ArgM) := [(9, ⟨[], [], [], true⟩), (8, ⟨[], [], [], true⟩), (16, ⟨[], [], [], true⟩)]
instance : DfOk M_espalierlaw_ValueOrders := .none rfl
noncomputable def O_espalierlaw_ValueOrders {ρ : Type} (n : Nat) : Orc ρ := orcCons 9 F_value_Order (value_Order n) (orcCons 8 F_espalierlaw_valued (espalierlaw_valued n) (orcCons 12 F_value_Same (value_Same n) (orcCons 16 F_value_Check (value_Check n) (orcNil))))
theorem O_espalierlaw_ValueOrders_ok {ρ : Type} (n : Nat) : (O_espalierlaw_ValueOrders n : Orc ρ).ok Tryd.prog := orcCons_ok (by kernel_rfl) (ok_value_Order n) (orcCons_ok (by kernel_rfl) (ok_espalierlaw_valued n) (orcCons_ok (by kernel_rfl) (ok_value_Same n) (orcCons_ok (by kernel_rfl) (ok_value_Check n) (orcNil_ok))))
noncomputable def L_espalierlaw_ValueOrders {ρ : Type} (n : Nat) : LOrc ρ := lorcNil
omit [Tabs] [QuietD Tryd.prog] [UDef] [UTabs] in
theorem e_espalierlaw_ValueOrders (n : Nat) (x) : evF Tryd.prog 94 TT M_espalierlaw_ValueOrders F_espalierlaw_ValueOrders (O_espalierlaw_ValueOrders n) (L_espalierlaw_ValueOrders n) (evDraw Tryd.prog 94 TT M_espalierlaw_ValueOrders (O_espalierlaw_ValueOrders n)) ⟨[], [], []⟩ [.tmp 6] C_espalierlaw_ValueOrders x = espalierlaw_ValueOrders n x := by kernel_rfl
theorem ok_espalierlaw_ValueOrders (n : Nat) : Contract Tryd.prog 4 F_espalierlaw_ValueOrders (espalierlaw_ValueOrders n) :=
  Contract.of_ev (c := C_espalierlaw_ValueOrders) (N := 94) Tryd.func4 (by kernel_rfl) (by kernel_rfl) (by kernel_rfl) (by kernel_rfl) (O_espalierlaw_ValueOrders_ok n) (evDraw_ok (O_espalierlaw_ValueOrders_ok n) (by kernel_rfl)) (.of (l := []) (by kernel_rfl) trivial) (e_espalierlaw_ValueOrders n)

noncomputable def F_espalierlaw_ValueLess : FnT := ⟨2, ⟨[], [(0, .val), (1, .val)], []⟩, [.v .bool], []⟩
noncomputable def C_espalierlaw_ValueLess : Code := bodyOf Tryd.f5
noncomputable def M_espalierlaw_ValueLess : List (Nat × ArgM) := [(8, ⟨[], [], [], true⟩)]
instance : DfOk M_espalierlaw_ValueLess := .none rfl
noncomputable def O_espalierlaw_ValueLess {ρ : Type} (n : Nat) : Orc ρ := orcCons 14 F_value_Less (value_Less n) (orcCons 12 F_value_Same (value_Same n) (orcCons 8 F_espalierlaw_valued (espalierlaw_valued n) (orcNil)))
theorem O_espalierlaw_ValueLess_ok {ρ : Type} (n : Nat) : (O_espalierlaw_ValueLess n : Orc ρ).ok Tryd.prog := orcCons_ok (by kernel_rfl) (ok_value_Less n) (orcCons_ok (by kernel_rfl) (ok_value_Same n) (orcCons_ok (by kernel_rfl) (ok_espalierlaw_valued n) (orcNil_ok)))
noncomputable def L_espalierlaw_ValueLess {ρ : Type} (n : Nat) : LOrc ρ := lorcNil
omit [Tabs] [QuietD Tryd.prog] [UDef] [UTabs] in
theorem e_espalierlaw_ValueLess (n : Nat) (x) : evF Tryd.prog 42 TT M_espalierlaw_ValueLess F_espalierlaw_ValueLess (O_espalierlaw_ValueLess n) (L_espalierlaw_ValueLess n) (evDraw Tryd.prog 42 TT M_espalierlaw_ValueLess (O_espalierlaw_ValueLess n)) ⟨[], [], []⟩ [.tmp 4] C_espalierlaw_ValueLess x = espalierlaw_ValueLess n x := by kernel_rfl
theorem ok_espalierlaw_ValueLess (n : Nat) : Contract Tryd.prog 5 F_espalierlaw_ValueLess (espalierlaw_ValueLess n) :=
  Contract.of_ev (c := C_espalierlaw_ValueLess) (N := 42) Tryd.func5 (by kernel_rfl) (by kernel_rfl) (by kernel_rfl) (by kernel_rfl) (O_espalierlaw_ValueLess_ok n) (evDraw_ok (O_espalierlaw_ValueLess_ok n) (by kernel_rfl)) (.of (l := []) (by kernel_rfl) trivial) (e_espalierlaw_ValueLess n)

noncomputable def F_espalierlaw_ValueBack : FnT := ⟨1, ⟨[], [(0, .val)], []⟩, [.v .bool], []⟩
noncomputable def C_espalierlaw_ValueBack : Code := bodyOf Tryd.f6
noncomputable def M_espalierlaw_ValueBack : List (Nat × ArgM) := [(17, ⟨[], [], [], true⟩), (8, ⟨[], [], [], true⟩), (11, ⟨[], [], [], true⟩)]
instance : DfOk M_espalierlaw_ValueBack := .none rfl
noncomputable def O_espalierlaw_ValueBack {ρ : Type} (n : Nat) : Orc ρ := orcCons 17 F_value_Print (value_Print n) (orcCons 8 F_espalierlaw_valued (espalierlaw_valued n) (orcCons 18 F_value_Parse (value_Parse n) (orcCons 11 F_espalierref_SameValue (espalierref_SameValue n) (orcNil))))
theorem O_espalierlaw_ValueBack_ok {ρ : Type} (n : Nat) : (O_espalierlaw_ValueBack n : Orc ρ).ok Tryd.prog := orcCons_ok (by kernel_rfl) (ok_value_Print n) (orcCons_ok (by kernel_rfl) (ok_espalierlaw_valued n) (orcCons_ok (by kernel_rfl) (ok_value_Parse n) (orcCons_ok (by kernel_rfl) (ok_espalierref_SameValue n) (orcNil_ok))))
noncomputable def L_espalierlaw_ValueBack {ρ : Type} (n : Nat) : LOrc ρ := lorcNil
omit [Tabs] [QuietD Tryd.prog] [UDef] [UTabs] in
theorem e_espalierlaw_ValueBack (n : Nat) (x) : evF Tryd.prog 37 TT M_espalierlaw_ValueBack F_espalierlaw_ValueBack (O_espalierlaw_ValueBack n) (L_espalierlaw_ValueBack n) dorcNil ⟨[], [], []⟩ [.tmp 2] C_espalierlaw_ValueBack x = espalierlaw_ValueBack n x := by kernel_rfl
theorem ok_espalierlaw_ValueBack (n : Nat) : Contract Tryd.prog 6 F_espalierlaw_ValueBack (espalierlaw_ValueBack n) :=
  Contract.of_ev (c := C_espalierlaw_ValueBack) (N := 37) Tryd.func6 (by kernel_rfl) (by kernel_rfl) (by kernel_rfl) (by kernel_rfl) (O_espalierlaw_ValueBack_ok n) dorcNil_ok (.of (l := []) (by kernel_rfl) trivial) (e_espalierlaw_ValueBack n)

noncomputable def F_math_bits_Mul64 : FnT := ⟨2, ⟨[], [(0, .u64), (1, .u64)], []⟩, [.v .u64, .v .u64], []⟩
noncomputable def C_math_bits_Mul64 : Code := bodyOf Tryd.f53
noncomputable def M_math_bits_Mul64 : List (Nat × ArgM) := []
instance : DfOk M_math_bits_Mul64 := .none rfl
noncomputable def O_math_bits_Mul64 {ρ : Type} : Orc ρ := orcNil
omit [QuietD Tryd.prog] [UDef] [UTabs] in
theorem O_math_bits_Mul64_ok {ρ : Type} : (O_math_bits_Mul64 : Orc ρ).ok Tryd.prog := orcNil_ok
noncomputable def L_math_bits_Mul64 {ρ : Type} : LOrc ρ := lorcNil
omit [Tabs] [QuietD Tryd.prog] [UDef] [UTabs] in
theorem e_math_bits_Mul64 (x) : evF Tryd.prog 51 TT M_math_bits_Mul64 F_math_bits_Mul64 (O_math_bits_Mul64) (L_math_bits_Mul64) dorcNil ⟨[], [], []⟩ [.tmp 4, .tmp 5] C_math_bits_Mul64 x = math_bits_Mul64 x := by kernel_rfl
omit [UDef] [UTabs] in
theorem ok_math_bits_Mul64 : Contract Tryd.prog 53 F_math_bits_Mul64 (math_bits_Mul64) :=
  Contract.of_ev (c := C_math_bits_Mul64) (N := 51) Tryd.func53 (by kernel_rfl) (by kernel_rfl) (by kernel_rfl) (by kernel_rfl) (O_math_bits_Mul64_ok) dorcNil_ok (.of (l := []) (by kernel_rfl) trivial) (e_math_bits_Mul64)

noncomputable def F_value_mul : FnT := ⟨2, ⟨[], [(0, .i64), (1, .i64)], []⟩, [.v .i64, .v .bool], []⟩
noncomputable def F_value_mul_1 : FnT := ⟨1, ⟨[], [(0, .i64)], []⟩, [.v .u64], []⟩
noncomputable def C_value_mul_1 : Code := bodyOf Tryd.f52
noncomputable def M_value_mul_1 : List (Nat × ArgM) := []
instance : DfOk M_value_mul_1 := .none rfl
noncomputable def O_value_mul_1 {ρ : Type} : Orc ρ := orcNil
omit [QuietD Tryd.prog] [UDef] [UTabs] in
theorem O_value_mul_1_ok {ρ : Type} : (O_value_mul_1 : Orc ρ).ok Tryd.prog := orcNil_ok
noncomputable def L_value_mul_1 {ρ : Type} : LOrc ρ := lorcNil
omit [Tabs] [QuietD Tryd.prog] [UDef] [UTabs] in
theorem e_value_mul_1 (x) : evF Tryd.prog 10 TT M_value_mul_1 F_value_mul_1 (O_value_mul_1) (L_value_mul_1) dorcNil ⟨[], [], []⟩ [.tmp 2] C_value_mul_1 x = value_mul_1 x := by kernel_rfl
omit [UDef] [UTabs] in
theorem ok_value_mul_1 : Contract Tryd.prog 52 F_value_mul_1 (value_mul_1) :=
  Contract.of_ev (c := C_value_mul_1) (N := 10) Tryd.func52 (by kernel_rfl) (by kernel_rfl) (by kernel_rfl) (by kernel_rfl) (O_value_mul_1_ok) dorcNil_ok (.of (l := []) (by kernel_rfl) trivial) (e_value_mul_1)

noncomputable def C_value_mul : Code := bodyOf Tryd.f38
noncomputable def M_value_mul : List (Nat × ArgM) := [(52, ⟨[], [], [], true⟩), (53, ⟨[], [], [], true⟩)]
instance : DfOk M_value_mul := .none rfl
noncomputable def O_value_mul {ρ : Type} : Orc ρ := orcCons 52 F_value_mul_1 (value_mul_1) (orcCons 53 F_math_bits_Mul64 (math_bits_Mul64) (orcNil))
omit [UDef] [UTabs] in
theorem O_value_mul_ok {ρ : Type} : (O_value_mul : Orc ρ).ok Tryd.prog := orcCons_ok (by kernel_rfl) (ok_value_mul_1) (orcCons_ok (by kernel_rfl) (ok_math_bits_Mul64) (orcNil_ok))
noncomputable def L_value_mul {ρ : Type} : LOrc ρ := lorcNil
omit [Tabs] [QuietD Tryd.prog] [UDef] [UTabs] in
theorem e_value_mul (x) : evF Tryd.prog 45 TT M_value_mul F_value_mul (O_value_mul) (L_value_mul) dorcNil ⟨[], [], []⟩ [.tmp 4, .tmp 5] C_value_mul x = value_mul x := by kernel_rfl
omit [UDef] [UTabs] in
theorem ok_value_mul : Contract Tryd.prog 38 F_value_mul (value_mul) :=
  Contract.of_ev (c := C_value_mul) (N := 45) Tryd.func38 (by kernel_rfl) (by kernel_rfl) (by kernel_rfl) (by kernel_rfl) (O_value_mul_ok) dorcNil_ok (.of (l := []) (by kernel_rfl) trivial) (e_value_mul)

noncomputable def F_value_Copy : FnT := ⟨1, ⟨[], [(0, .val)], []⟩, [.v .val], []⟩
noncomputable def C_value_Copy : Code := bodyOf Tryd.f39
noncomputable def M_value_Copy : List (Nat × ArgM) := []
instance : DfOk M_value_Copy := .none rfl
noncomputable def O_value_Copy {ρ : Type} (self_value_Copy : Ev.Val × Unit → Option (Ev.Val × Unit)) (n : Nat) : Orc ρ := orcCons 39 F_value_Copy (self_value_Copy) (orcNil)
omit [QuietD Tryd.prog] [UDef] [UTabs] in
theorem O_value_Copy_ok {ρ : Type} (self_value_Copy : Ev.Val × Unit → Option (Ev.Val × Unit)) (h_value_Copy : Contract Tryd.prog 39 F_value_Copy self_value_Copy) (n : Nat) : (O_value_Copy self_value_Copy n : Orc ρ).ok Tryd.prog := orcCons_ok (by kernel_rfl) (h_value_Copy) (orcNil_ok)
noncomputable def T_value_Copy_s0 : Tm := ⟨[(1, .ptr 1 0), (2, .ptr 2 0)], [(9, (.lst .val)), (10, .i64), (11, .i64)], [(1, .box [.d .i64, .d .i64, .d .str, .ref (.own 300043)]), (2, .box [.d .val]), (300043, .arr 24 .val)]⟩
noncomputable def X_value_Copy_s0 : Tm := ⟨[(1, .ptr 1 0), (2, .ptr 2 0)], [], [(1, .box [.d .i64, .d .i64, .d .str, .ref (.own 300043)]), (2, .box [.d .val]), (300043, .arr 24 .val)]⟩
noncomputable def R_value_Copy_s0 : Tm := ⟨[], [], []⟩
noncomputable def L_value_Copy_s0 {ρ : Type} (self_value_Copy : Ev.Val × Unit → Option (Ev.Val × Unit)) (n : Nat) : LOrc ρ := lorcNil
omit [Tabs] [QuietD Tryd.prog] [UDef] [UTabs] in
theorem s_value_Copy_s0 {ρ : Type} (self_value_Copy : Ev.Val × Unit → Option (Ev.Val × Unit)) (n : Nat) (rec : T_value_Copy_s0.den → Option ρ) kx kr s : dStep Tryd.prog 24 TT M_value_Copy (O_value_Copy self_value_Copy n) (L_value_Copy_s0 self_value_Copy n) (evDraw Tryd.prog 24 TT M_value_Copy (O_value_Copy self_value_Copy n)) 0 (lbody 1000 C_value_Copy 0) T_value_Copy_s0 X_value_Copy_s0 R_value_Copy_s0 ⟨[], [], [(1, 3, 300043, 24, 4)]⟩ rec kx kr s = value_Copy_s0 self_value_Copy n rec kx kr s := by kernel_rfl
noncomputable def L_value_Copy {ρ : Type} (self_value_Copy : Ev.Val × Unit → Option (Ev.Val × Unit)) (n : Nat) : LOrc ρ := lorcCons 0 (loopL 24 0 n T_value_Copy_s0 X_value_Copy_s0 R_value_Copy_s0 ⟨[], [], [(1, 3, 300043, 24, 4)]⟩ (value_Copy_s0 self_value_Copy n)) (lorcNil)
omit [Tabs] [QuietD Tryd.prog] [UDef] [UTabs] in
theorem e_value_Copy (self_value_Copy : Ev.Val × Unit → Option (Ev.Val × Unit)) (n : Nat) (x) : evF Tryd.prog 24 TT M_value_Copy F_value_Copy (O_value_Copy self_value_Copy n) (L_value_Copy self_value_Copy n) (evDraw Tryd.prog 24 TT M_value_Copy (O_value_Copy self_value_Copy n)) ⟨[], [], []⟩ [.cell 2 24] C_value_Copy x = value_Copy_b self_value_Copy n x := by kernel_rfl
omit [UDef] [UTabs] in
theorem okb_value_Copy (self_value_Copy : Ev.Val × Unit → Option (Ev.Val × Unit)) (h_value_Copy : Contract Tryd.prog 39 F_value_Copy self_value_Copy) (n : Nat) : Contract Tryd.prog 39 F_value_Copy (value_Copy_b self_value_Copy n) :=
  Contract.of_ev (c := C_value_Copy) (N := 24) Tryd.func39 (by kernel_rfl) (by kernel_rfl) (by kernel_rfl) (by kernel_rfl) (O_value_Copy_ok self_value_Copy h_value_Copy n) (evDraw_ok (O_value_Copy_ok self_value_Copy h_value_Copy n) (by kernel_rfl)) (.of (l := [(0, (lbody 1000 C_value_Copy 0))]) (by kernel_rfl) ⟨.head (loopL_sound (O_value_Copy_ok self_value_Copy h_value_Copy n) (evDraw_ok (O_value_Copy_ok self_value_Copy h_value_Copy n) (by kernel_rfl)) (.of (l := []) (by kernel_rfl) trivial) (s_value_Copy_s0 self_value_Copy n)), trivial⟩) (e_value_Copy self_value_Copy n)
omit [UDef] [UTabs] in
theorem ok_value_Copy : ∀ n, Contract Tryd.prog 39 F_value_Copy (value_Copy n)
  | 0 => fun _ _ h => by cases h
  | n + 1 => okb_value_Copy _ (ok_value_Copy n) n

noncomputable def F_value_Reckon : FnT := ⟨3, ⟨[], [(0, .str), (1, .val), (2, .val)], []⟩, [.v .val, .v .i64], []⟩
noncomputable def F_value_add : FnT := ⟨2, ⟨[], [(0, .i64), (1, .i64)], []⟩, [.v .i64, .v .bool], []⟩
noncomputable def C_value_add : Code := bodyOf Tryd.f36
noncomputable def M_value_add : List (Nat × ArgM) := []
instance : DfOk M_value_add := .none rfl
noncomputable def O_value_add {ρ : Type} : Orc ρ := orcNil
omit [QuietD Tryd.prog] [UDef] [UTabs] in
theorem O_value_add_ok {ρ : Type} : (O_value_add : Orc ρ).ok Tryd.prog := orcNil_ok
noncomputable def L_value_add {ρ : Type} : LOrc ρ := lorcNil
omit [Tabs] [QuietD Tryd.prog] [UDef] [UTabs] in
theorem e_value_add (x) : evF Tryd.prog 17 TT M_value_add F_value_add (O_value_add) (L_value_add) dorcNil ⟨[], [], []⟩ [.tmp 4, .tmp 5] C_value_add x = value_add x := by kernel_rfl
omit [UDef] [UTabs] in
theorem ok_value_add : Contract Tryd.prog 36 F_value_add (value_add) :=
  Contract.of_ev (c := C_value_add) (N := 17) Tryd.func36 (by kernel_rfl) (by kernel_rfl) (by kernel_rfl) (by kernel_rfl) (O_value_add_ok) dorcNil_ok (.of (l := []) (by kernel_rfl) trivial) (e_value_add)

noncomputable def F_value_sub : FnT := ⟨2, ⟨[], [(0, .i64), (1, .i64)], []⟩, [.v .i64, .v .bool], []⟩
noncomputable def C_value_sub : Code := bodyOf Tryd.f37
noncomputable def M_value_sub : List (Nat × ArgM) := []
instance : DfOk M_value_sub := .none rfl
noncomputable def O_value_sub {ρ : Type} : Orc ρ := orcNil
omit [QuietD Tryd.prog] [UDef] [UTabs] in
theorem O_value_sub_ok {ρ : Type} : (O_value_sub : Orc ρ).ok Tryd.prog := orcNil_ok
noncomputable def L_value_sub {ρ : Type} : LOrc ρ := lorcNil
omit [Tabs] [QuietD Tryd.prog] [UDef] [UTabs] in
theorem e_value_sub (x) : evF Tryd.prog 17 TT M_value_sub F_value_sub (O_value_sub) (L_value_sub) dorcNil ⟨[], [], []⟩ [.tmp 4, .tmp 5] C_value_sub x = value_sub x := by kernel_rfl
omit [UDef] [UTabs] in
theorem ok_value_sub : Contract Tryd.prog 37 F_value_sub (value_sub) :=
  Contract.of_ev (c := C_value_sub) (N := 17) Tryd.func37 (by kernel_rfl) (by kernel_rfl) (by kernel_rfl) (by kernel_rfl) (O_value_sub_ok) dorcNil_ok (.of (l := []) (by kernel_rfl) trivial) (e_value_sub)

noncomputable def C_value_Reckon : Code := bodyOf Tryd.f20
noncomputable def M_value_Reckon : List (Nat × ArgM) := [(36, ⟨[], [], [], true⟩), (37, ⟨[], [], [], true⟩), (38, ⟨[], [], [], true⟩)]
instance : DfOk M_value_Reckon := .none rfl
noncomputable def O_value_Reckon {ρ : Type} (n : Nat) : Orc ρ := orcCons 36 F_value_add (value_add) (orcCons 39 F_value_Copy (value_Copy n) (orcCons 37 F_value_sub (value_sub) (orcCons 38 F_value_mul (value_mul) (orcNil))))
omit [UDef] [UTabs] in
theorem O_value_Reckon_ok {ρ : Type} (n : Nat) : (O_value_Reckon n : Orc ρ).ok Tryd.prog := orcCons_ok (by kernel_rfl) (ok_value_add) (orcCons_ok (by kernel_rfl) (ok_value_Copy n) (orcCons_ok (by kernel_rfl) (ok_value_sub) (orcCons_ok (by kernel_rfl) (ok_value_mul) (orcNil_ok))))
noncomputable def L_value_Reckon {ρ : Type} (n : Nat) : LOrc ρ := lorcNil
omit [Tabs] [QuietD Tryd.prog] [UDef] [UTabs] in
theorem e_value_Reckon (n : Nat) (x) : evF Tryd.prog 111 TT M_value_Reckon F_value_Reckon (O_value_Reckon n) (L_value_Reckon n) (evDraw Tryd.prog 111 TT M_value_Reckon (O_value_Reckon n)) ⟨[], [], []⟩ [.cell 6 24, .tmp 7] C_value_Reckon x = value_Reckon n x := by kernel_rfl
omit [UDef] [UTabs] in
theorem ok_value_Reckon (n : Nat) : Contract Tryd.prog 20 F_value_Reckon (value_Reckon n) :=
  Contract.of_ev (c := C_value_Reckon) (N := 111) Tryd.func20 (by kernel_rfl) (by kernel_rfl) (by kernel_rfl) (by kernel_rfl) (O_value_Reckon_ok n) (evDraw_ok (O_value_Reckon_ok n) (by kernel_rfl)) (.of (l := []) (by kernel_rfl) trivial) (e_value_Reckon n)

noncomputable def F_espalierlaw_ValueRing : FnT := ⟨3, ⟨[], [(0, .i64), (1, .i64), (2, .i64)], []⟩, [.v .bool], []⟩
noncomputable def C_espalierlaw_ValueRing : Code := bodyOf Tryd.f7
noncomputable def M_espalierlaw_ValueRing : List (Nat × ArgM) := [(8, ⟨[], [], [], true⟩), (11, ⟨[], [], [], true⟩)]
instance : DfOk M_espalierlaw_ValueRing := .none rfl
noncomputable def O_espalierlaw_ValueRing {ρ : Type} (n : Nat) : Orc ρ := orcCons 19 F_espalierlaw_num (espalierlaw_num) (orcCons 20 F_value_Reckon (value_Reckon n) (orcCons 8 F_espalierlaw_valued (espalierlaw_valued n) (orcCons 11 F_espalierref_SameValue (espalierref_SameValue n) (orcNil))))
theorem O_espalierlaw_ValueRing_ok {ρ : Type} (n : Nat) : (O_espalierlaw_ValueRing n : Orc ρ).ok Tryd.prog := orcCons_ok (by kernel_rfl) (ok_espalierlaw_num) (orcCons_ok (by kernel_rfl) (ok_value_Reckon n) (orcCons_ok (by kernel_rfl) (ok_espalierlaw_valued n) (orcCons_ok (by kernel_rfl) (ok_espalierref_SameValue n) (orcNil_ok))))
noncomputable def L_espalierlaw_ValueRing {ρ : Type} (n : Nat) : LOrc ρ := lorcNil
omit [Tabs] [QuietD Tryd.prog] [UDef] [UTabs] in
theorem e_espalierlaw_ValueRing (n : Nat) (x) : evF Tryd.prog 113 TT M_espalierlaw_ValueRing F_espalierlaw_ValueRing (O_espalierlaw_ValueRing n) (L_espalierlaw_ValueRing n) dorcNil ⟨[], [], []⟩ [.tmp 6] C_espalierlaw_ValueRing x = espalierlaw_ValueRing n x := by kernel_rfl
theorem ok_espalierlaw_ValueRing (n : Nat) : Contract Tryd.prog 7 F_espalierlaw_ValueRing (espalierlaw_ValueRing n) :=
  Contract.of_ev (c := C_espalierlaw_ValueRing) (N := 113) Tryd.func7 (by kernel_rfl) (by kernel_rfl) (by kernel_rfl) (by kernel_rfl) (O_espalierlaw_ValueRing_ok n) dorcNil_ok (.of (l := []) (by kernel_rfl) trivial) (e_espalierlaw_ValueRing n)

end Go.Proofs.YtohlmpgbpkeboaaDoor

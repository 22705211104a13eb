/-
  DERIVED: THE SHELF's CONTRACTS AT THIS DUMP, IN PLAIN WORDS (tools/lay-plain.mjs out of 'YtnfoajgolcenlaaDoorShelf.lean', which tools/lay-shelf.mjs wrote): THE SAME DECLARATIONS UNDER THE SAME NAMES: 'import', 'namespace', 'open', 'def', 'theorem' AND NOTHING ELSE: no command of the shelf's: FOR A HAND-IN. Each laying: the table of numbers ('.._ren') and one theorem, a field a fact of the dump's own or the kernel's comparison; each contract: ONE APPLICATION.
-/
import Derived.Shelf.Unicode.ValidAny
import Derived.Shelf.Strings.SlTrimAscii
import Derived.Ground.NamesProg
import Derived.Test.YtnfoajgolcenlaaDoorProg
namespace Go.Proofs
open Go.Shelf
set_option linter.unusedSimpArgs false
set_option linter.unusedVariables false
def Tryd.laysValid_ren : Go.Shelf.Ren := ⟨fun | 196 => 134 | 259 => 178 | n => n, fun | 9 => 9 | 4 => 4 | 3 => 3 | 5 => 5 | 12 => 12 | 119 => 225 | 0 => 0 | 46 => 136 | 139 => 228 | 138 => 227 | 53 => 189 | n => n, fun | 3 => 0 | 4 => 1 | n => n⟩
theorem Tryd.laysValid : Go.Proofs.Lays.n196 Tryd.prog Tryd.laysValid_ren := {
  mixed := by kernel_rfl
  f196 := Tryd.func134.trans (congrArg some (by kernel_rfl))
  f259 := Tryd.func178.trans (congrArg some (by kernel_rfl))
  t0 := Tryd.underlying0
  a0 := Tryd.isAgg0
  z0 := Tryd.sizeOf0
  v0 := Tryd.zeroValue0
  t3 := Tryd.underlying3
  a3 := Tryd.isAgg3
  z3 := Tryd.sizeOf3
  v3 := Tryd.zeroValue3
  t4 := Tryd.underlying4
  a4 := Tryd.isAgg4
  z4 := Tryd.sizeOf4
  v4 := Tryd.zeroValue4
  t5 := Tryd.underlying5
  a5 := Tryd.isAgg5
  z5 := Tryd.sizeOf5
  v5 := Tryd.zeroValue5
  t9 := Tryd.underlying9
  a9 := Tryd.isAgg9
  z9 := Tryd.sizeOf9
  v9 := Tryd.zeroValue9
  t12 := Tryd.underlying12
  a12 := Tryd.isAgg12
  z12 := Tryd.sizeOf12
  v12 := Tryd.zeroValue12
  t46 := Tryd.underlying136
  a46 := Tryd.isAgg136
  z46 := Tryd.sizeOf136
  v46 := Tryd.zeroValue136
  t53 := Tryd.underlying189
  a53 := Tryd.isAgg189
  z53 := Tryd.sizeOf189
  v53 := Tryd.zeroValue189
  t119 := Tryd.underlying225
  a119 := Tryd.isAgg225
  z119 := Tryd.sizeOf225
  t138 := Tryd.underlying227
  a138 := Tryd.isAgg227
  z138 := Tryd.sizeOf227
  v138 := Tryd.zeroValue227
  t139 := Tryd.underlying228
  a139 := Tryd.isAgg228
  z139 := Tryd.sizeOf228
  v139 := Tryd.zeroValue228
  g3 := by kernel_rfl
  g4 := by kernel_rfl }
def Tryd.laysTrim_ren : Go.Shelf.Ren := ⟨fun | 160 => 127 | 232 => 170 | 231 => 169 | 227 => 171 | 234 => 173 | 233 => 172 | 236 => 175 | 235 => 174 | 228 => 205 | 271 => 208 | 151 => 207 | 197 => 206 | 120 => 215 | 152 => 214 | 260 => 213 | 137 => 218 | 119 => 219 | 224 => 220 | 225 => 221 | 217 => 223 | 266 => 224 | n => n, fun | 9 => 9 | 4 => 4 | 3 => 3 | 5 => 5 | 117 => 218 | 116 => 217 | 0 => 0 | 124 => 221 | 21 => 21 | 105 => 246 | 46 => 136 | 119 => 225 | 139 => 228 | 138 => 227 | n => n, fun | 3 => 0 | 4 => 1 | n => n⟩
theorem Tryd.laysTrim : Go.Proofs.Lays.n160 Tryd.prog Tryd.laysTrim_ren := {
  mixed := by kernel_rfl
  f119 := Tryd.func219.trans (congrArg some (by kernel_rfl))
  f120 := Tryd.func215.trans (congrArg some (by kernel_rfl))
  f137 := Tryd.func218.trans (congrArg some (by kernel_rfl))
  f151 := Tryd.func207.trans (congrArg some (by kernel_rfl))
  f152 := Tryd.func214.trans (congrArg some (by kernel_rfl))
  f160 := Tryd.func127.trans (congrArg some (by kernel_rfl))
  f197 := Tryd.func206.trans (congrArg some (by kernel_rfl))
  f217 := Tryd.func223.trans (congrArg some (by kernel_rfl))
  f224 := Tryd.func220.trans (congrArg some (by kernel_rfl))
  f225 := Tryd.func221.trans (congrArg some (by kernel_rfl))
  f227 := Tryd.func171.trans (congrArg some (by kernel_rfl))
  f228 := Tryd.func205.trans (congrArg some (by kernel_rfl))
  f231 := Tryd.func169.trans (congrArg some (by kernel_rfl))
  f232 := Tryd.func170.trans (congrArg some (by kernel_rfl))
  f233 := Tryd.func172.trans (congrArg some (by kernel_rfl))
  f234 := Tryd.func173.trans (congrArg some (by kernel_rfl))
  f235 := Tryd.func174.trans (congrArg some (by kernel_rfl))
  f236 := Tryd.func175.trans (congrArg some (by kernel_rfl))
  f260 := Tryd.func213.trans (congrArg some (by kernel_rfl))
  f266 := Tryd.func224.trans (congrArg some (by kernel_rfl))
  f271 := Tryd.func208.trans (congrArg some (by kernel_rfl))
  t0 := Tryd.underlying0
  a0 := Tryd.isAgg0
  z0 := Tryd.sizeOf0
  v0 := Tryd.zeroValue0
  t3 := Tryd.underlying3
  a3 := Tryd.isAgg3
  z3 := Tryd.sizeOf3
  v3 := Tryd.zeroValue3
  t4 := Tryd.underlying4
  a4 := Tryd.isAgg4
  z4 := Tryd.sizeOf4
  v4 := Tryd.zeroValue4
  t5 := Tryd.underlying5
  a5 := Tryd.isAgg5
  z5 := Tryd.sizeOf5
  v5 := Tryd.zeroValue5
  t9 := Tryd.underlying9
  a9 := Tryd.isAgg9
  z9 := Tryd.sizeOf9
  v9 := Tryd.zeroValue9
  t21 := Tryd.underlying21
  a21 := Tryd.isAgg21
  z21 := Tryd.sizeOf21
  v21 := Tryd.zeroValue21
  t46 := Tryd.underlying136
  a46 := Tryd.isAgg136
  z46 := Tryd.sizeOf136
  v46 := Tryd.zeroValue136
  t105 := Tryd.underlying246
  a105 := Tryd.isAgg246
  z105 := Tryd.sizeOf246
  v105 := Tryd.zeroValue246
  t116 := Tryd.underlying217
  a116 := Tryd.isAgg217
  z116 := Tryd.sizeOf217
  t117 := Tryd.underlying218
  a117 := Tryd.isAgg218
  z117 := Tryd.sizeOf218
  v117 := Tryd.zeroValue218
  t119 := Tryd.underlying225
  a119 := Tryd.isAgg225
  z119 := Tryd.sizeOf225
  t124 := Tryd.underlying221
  a124 := Tryd.isAgg221
  z124 := Tryd.sizeOf221
  v124 := Tryd.zeroValue221
  t138 := Tryd.underlying227
  a138 := Tryd.isAgg227
  z138 := Tryd.sizeOf227
  v138 := Tryd.zeroValue227
  t139 := Tryd.underlying228
  a139 := Tryd.isAgg228
  z139 := Tryd.sizeOf228
  v139 := Tryd.zeroValue228
  g3 := by kernel_rfl
  g4 := by kernel_rfl }
end Go.Proofs

/-
  DERIVED: THE SHELF's CONTRACTS AT THIS DUMP, IN PLAIN WORDS (tools/lay-plain.mjs out of 'YtopfgkbpakfccaaGreatDoorSiShelf.lean', which tools/lay-shelf.mjs wrote): THE SAME DECLARATIONS UNDER THE SAME NAMES: 'import', 'namespace', 'open', 'def', 'theorem' AND NOTHING ELSE: no command of the shelf's: FOR A HAND-IN. Each laying: the table of numbers ('.._ren') and one theorem, a field a fact of the dump's own or the kernel's comparison; each contract: ONE APPLICATION.
-/
import Derived.Shelf.Sort.Plain
import Derived.Ground.NamesProg
import Derived.Test.YtopfgkbpakfccaaGreatDoorProg
set_option linter.unusedSimpArgs false
set_option linter.unusedVariables false
namespace Go.Proofs
open Go.Shelf
def Tryz.sortInts_ren : Go.Shelf.Ren := ⟨fun | 189 => 85 | 125 => 119 | 257 => 118 | 128 => 145 | 129 => 132 | 294 => 136 | 295 => 137 | 296 => 138 | 297 => 139 | 298 => 140 | 299 => 141 | 216 => 142 | 300 => 143 | 301 => 144 | 328 => 162 | 329 => 163 | 330 => 164 | 331 => 165 | 332 => 166 | 215 => 123 | 343 => 183 | n => n, fun | 28 => 32 | 3 => 3 | 46 => 193 | 0 => 0 | 51 => 215 | 53 => 185 | 4 => 4 | 183 => 225 | 182 => 224 | 131 => 103 | 5 => 5 | 9 => 9 | 218 => 243 | 222 => 247 | 228 => 263 | 229 => 264 | n => n, fun | n => n⟩
theorem Tryz.sortInts : Go.Proofs.Lays.n189 Tryz.prog Tryz.sortInts_ren := {
  mixed := by kernel_rfl
  f125 := Tryz.func119.trans (congrArg some (by kernel_rfl))
  f128 := Tryz.func145.trans (congrArg some (by kernel_rfl))
  f129 := Tryz.func132.trans (congrArg some (by kernel_rfl))
  f189 := Tryz.func85.trans (congrArg some (by kernel_rfl))
  f215 := Tryz.func123.trans (congrArg some (by kernel_rfl))
  f216 := Tryz.func142.trans (congrArg some (by kernel_rfl))
  f257 := Tryz.func118.trans (congrArg some (by kernel_rfl))
  f294 := Tryz.func136.trans (congrArg some (by kernel_rfl))
  f295 := Tryz.func137.trans (congrArg some (by kernel_rfl))
  f296 := Tryz.func138.trans (congrArg some (by kernel_rfl))
  f297 := Tryz.func139.trans (congrArg some (by kernel_rfl))
  f298 := Tryz.func140.trans (congrArg some (by kernel_rfl))
  f299 := Tryz.func141.trans (congrArg some (by kernel_rfl))
  f300 := Tryz.func143.trans (congrArg some (by kernel_rfl))
  f301 := Tryz.func144.trans (congrArg some (by kernel_rfl))
  f328 := Tryz.func162.trans (congrArg some (by kernel_rfl))
  f329 := Tryz.func163.trans (congrArg some (by kernel_rfl))
  f330 := Tryz.func164.trans (congrArg some (by kernel_rfl))
  f331 := Tryz.func165.trans (congrArg some (by kernel_rfl))
  f332 := Tryz.func166.trans (congrArg some (by kernel_rfl))
  f343 := Tryz.func183.trans (congrArg some (by kernel_rfl))
  t0 := Tryz.underlying0
  a0 := Tryz.isAgg0
  z0 := Tryz.sizeOf0
  v0 := Tryz.zeroValue0
  t3 := Tryz.underlying3
  a3 := Tryz.isAgg3
  z3 := Tryz.sizeOf3
  v3 := Tryz.zeroValue3
  t4 := Tryz.underlying4
  a4 := Tryz.isAgg4
  z4 := Tryz.sizeOf4
  v4 := Tryz.zeroValue4
  t5 := Tryz.underlying5
  a5 := Tryz.isAgg5
  z5 := Tryz.sizeOf5
  v5 := Tryz.zeroValue5
  t9 := Tryz.underlying9
  a9 := Tryz.isAgg9
  z9 := Tryz.sizeOf9
  v9 := Tryz.zeroValue9
  t28 := Tryz.underlying32
  a28 := Tryz.isAgg32
  z28 := Tryz.sizeOf32
  v28 := Tryz.zeroValue32
  t46 := Tryz.underlying193
  a46 := Tryz.isAgg193
  z46 := Tryz.sizeOf193
  v46 := Tryz.zeroValue193
  t51 := Tryz.underlying215
  a51 := Tryz.isAgg215
  z51 := Tryz.sizeOf215
  v51 := Tryz.zeroValue215
  t53 := Tryz.underlying185
  a53 := Tryz.isAgg185
  z53 := Tryz.sizeOf185
  v53 := Tryz.zeroValue185
  t131 := Tryz.underlying103
  a131 := Tryz.isAgg103
  z131 := Tryz.sizeOf103
  v131 := Tryz.zeroValue103
  t182 := Tryz.underlying224
  a182 := Tryz.isAgg224
  z182 := Tryz.sizeOf224
  v182 := Tryz.zeroValue224
  t183 := Tryz.underlying225
  a183 := Tryz.isAgg225
  z183 := Tryz.sizeOf225
  v183 := Tryz.zeroValue225
  t218 := Tryz.underlying243
  a218 := Tryz.isAgg243
  z218 := Tryz.sizeOf243
  v218 := Tryz.zeroValue243
  t222 := Tryz.underlying247
  a222 := Tryz.isAgg247
  z222 := Tryz.sizeOf247
  v222 := Tryz.zeroValue247
  t228 := Tryz.underlying263
  a228 := Tryz.isAgg263
  z228 := Tryz.sizeOf263
  v228 := Tryz.zeroValue263
  t229 := Tryz.underlying264
  a229 := Tryz.isAgg264
  z229 := Tryz.sizeOf264
  v229 := Tryz.zeroValue264 }
end Go.Proofs

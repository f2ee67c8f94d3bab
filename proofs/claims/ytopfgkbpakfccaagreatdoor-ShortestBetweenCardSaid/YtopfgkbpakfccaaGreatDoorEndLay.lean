/-
  DERIVED: THE SHELF's CONTRACTS AT THIS DUMP, IN PLAIN WORDS (tools/lay-plain.mjs out of 'YtopfgkbpakfccaaGreatDoorEndShelf.lean', which tools/lay-shelf.mjs wrote): THE SAME DECLARATIONS UNDER THE SAME NAMES: 'import', 'namespace', 'open', 'def', 'theorem' AND NOTHING ELSE: no command of the shelf's: FOR A HAND-IN. Each laying: the table of numbers ('.._ren') and one theorem, a field a fact of the dump's own or the kernel's comparison; each contract: ONE APPLICATION.
-/
import Derived.Shelf.SlGeneric
import Derived.Shelf.SlSortCmp.WholeK
import Derived.Shelf.Small.Bits
import Derived.Ground.SlsfProg
import Derived.Ground.NamesProg
import Derived.Test.YtopfgkbpakfccaaGreatDoorProg
set_option linter.unusedSimpArgs false
set_option linter.unusedVariables false
namespace Go.Proofs
open Go.Shelf
def Tryz.sortEnd_ren : Go.Shelf.Ren := ⟨fun | 6 => 134 | 15 => 119 | 14 => 161 | 28 => 145 | 29 => 132 | 20 => 175 | 21 => 176 | 22 => 177 | 23 => 178 | 24 => 179 | 25 => 180 | 26 => 181 | 27 => 182 | 46 => 188 | 47 => 163 | 48 => 164 | 49 => 189 | 50 => 190 | 57 => 193 | n => n, fun | 22 => 150 | 24 => 119 | 25 => 222 | 3 => 3 | 39 => 193 | 0 => 0 | 53 => 215 | 55 => 185 | 4 => 4 | 46 => 225 | 45 => 224 | 50 => 103 | 5 => 5 | 9 => 9 | 66 => 243 | 70 => 247 | 76 => 263 | 77 => 264 | n => n, fun | n => n⟩
theorem Tryz.sortEnd : Go.Proofs.SlLaysF0.n6 Tryz.prog Tryz.sortEnd_ren := {
  mixed := by kernel_rfl
  f6 := ⟨Tryz.f134.name, by decide, Tryz.func134.trans (congrArg some (by kernel_rfl))⟩
  f14 := ⟨Tryz.f161.name, by decide, Tryz.func161.trans (congrArg some (by kernel_rfl))⟩
  f15 := Tryz.func119.trans (congrArg some (by kernel_rfl))
  f20 := ⟨Tryz.f175.name, by decide, Tryz.func175.trans (congrArg some (by kernel_rfl))⟩
  f21 := ⟨Tryz.f176.name, by decide, Tryz.func176.trans (congrArg some (by kernel_rfl))⟩
  f22 := ⟨Tryz.f177.name, by decide, Tryz.func177.trans (congrArg some (by kernel_rfl))⟩
  f23 := ⟨Tryz.f178.name, by decide, Tryz.func178.trans (congrArg some (by kernel_rfl))⟩
  f24 := ⟨Tryz.f179.name, by decide, Tryz.func179.trans (congrArg some (by kernel_rfl))⟩
  f25 := ⟨Tryz.f180.name, by decide, Tryz.func180.trans (congrArg some (by kernel_rfl))⟩
  f26 := ⟨Tryz.f181.name, by decide, Tryz.func181.trans (congrArg some (by kernel_rfl))⟩
  f27 := ⟨Tryz.f182.name, by decide, Tryz.func182.trans (congrArg some (by kernel_rfl))⟩
  f28 := Tryz.func145.trans (congrArg some (by kernel_rfl))
  f29 := Tryz.func132.trans (congrArg some (by kernel_rfl))
  f46 := ⟨Tryz.f188.name, by decide, Tryz.func188.trans (congrArg some (by kernel_rfl))⟩
  f47 := Tryz.func163.trans (congrArg some (by kernel_rfl))
  f48 := Tryz.func164.trans (congrArg some (by kernel_rfl))
  f49 := ⟨Tryz.f189.name, by decide, Tryz.func189.trans (congrArg some (by kernel_rfl))⟩
  f50 := ⟨Tryz.f190.name, by decide, Tryz.func190.trans (congrArg some (by kernel_rfl))⟩
  f57 := ⟨Tryz.f193.name, by decide, Tryz.func193.trans (congrArg some (by kernel_rfl))⟩
  t0 := Tryz.underlying0
  a0 := Tryz.isAgg0
  z0 := Tryz.sizeOf0
  v0 := Tryz.zeroValue0
  t3 := Tryz.underlying3
  a3 := Tryz.isAgg3
  z3 := Tryz.sizeOf3
  v3 := Tryz.zeroValue3
  t4 := Tryz.underlying4
  a4 := Tryz.isAgg4
  z4 := Tryz.sizeOf4
  v4 := Tryz.zeroValue4
  t5 := Tryz.underlying5
  a5 := Tryz.isAgg5
  z5 := Tryz.sizeOf5
  v5 := Tryz.zeroValue5
  t9 := Tryz.underlying9
  a9 := Tryz.isAgg9
  z9 := Tryz.sizeOf9
  v9 := Tryz.zeroValue9
  t22 := Tryz.underlying150
  a22 := Tryz.isAgg150
  z22 := Tryz.sizeOf150
  v22 := Tryz.zeroValue150
  t25 := Tryz.underlying222
  a25 := Tryz.isAgg222
  z25 := Tryz.sizeOf222
  v25 := Tryz.zeroValue222
  t39 := Tryz.underlying193
  a39 := Tryz.isAgg193
  z39 := Tryz.sizeOf193
  v39 := Tryz.zeroValue193
  t45 := Tryz.underlying224
  a45 := Tryz.isAgg224
  z45 := Tryz.sizeOf224
  v45 := Tryz.zeroValue224
  t46 := Tryz.underlying225
  a46 := Tryz.isAgg225
  z46 := Tryz.sizeOf225
  v46 := Tryz.zeroValue225
  t50 := Tryz.underlying103
  a50 := Tryz.isAgg103
  z50 := Tryz.sizeOf103
  v50 := Tryz.zeroValue103
  t53 := Tryz.underlying215
  a53 := Tryz.isAgg215
  z53 := Tryz.sizeOf215
  v53 := Tryz.zeroValue215
  t55 := Tryz.underlying185
  a55 := Tryz.isAgg185
  z55 := Tryz.sizeOf185
  v55 := Tryz.zeroValue185
  t66 := Tryz.underlying243
  a66 := Tryz.isAgg243
  z66 := Tryz.sizeOf243
  v66 := Tryz.zeroValue243
  t70 := Tryz.underlying247
  a70 := Tryz.isAgg247
  z70 := Tryz.sizeOf247
  v70 := Tryz.zeroValue247
  t76 := Tryz.underlying263
  a76 := Tryz.isAgg263
  z76 := Tryz.sizeOf263
  v76 := Tryz.zeroValue263
  t77 := Tryz.underlying264
  a77 := Tryz.isAgg264
  z77 := Tryz.sizeOf264
  v77 := Tryz.zeroValue264 }
end Go.Proofs

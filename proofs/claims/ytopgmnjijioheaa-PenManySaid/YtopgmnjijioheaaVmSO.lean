/- The contract of the library's sort, laid at this program. No conditions. -/
import Derived.Shelf.Sort.Plain
import Derived.Shelf.Slices.In.SortNone
import Derived.Test.YtopgmnjijioheaaProg
set_option linter.unusedVariables false
namespace Go.Proofs
open Go.Shelf
def Try.lays189_ren : Go.Shelf.Ren := ⟨fun | 189 => 50 | 125 => 56 | 257 => 55 | 128 => 66 | 129 => 67 | 294 => 57 | 295 => 58 | 296 => 59 | 297 => 60 | 298 => 61 | 299 => 62 | 216 => 63 | 300 => 64 | 301 => 65 | 328 => 68 | 329 => 69 | 330 => 70 | 331 => 71 | 332 => 72 | 215 => 73 | 343 => 74 | n => n, fun | 28 => 23 | 3 => 3 | 46 => 89 | 0 => 0 | 51 => 100 | 53 => 102 | 4 => 4 | 183 => 92 | 182 => 91 | 131 => 97 | 5 => 5 | 9 => 9 | 218 => 103 | 222 => 107 | 228 => 109 | 229 => 110 | n => n, fun | n => n⟩
theorem Try.lays189 : Go.Proofs.Lays.n189 Try.prog Try.lays189_ren := {
  mixed := by kernel_rfl
  f125 := Try.func56.trans (congrArg some (by kernel_rfl))
  f128 := Try.func66.trans (congrArg some (by kernel_rfl))
  f129 := Try.func67.trans (congrArg some (by kernel_rfl))
  f189 := Try.func50.trans (congrArg some (by kernel_rfl))
  f215 := Try.func73.trans (congrArg some (by kernel_rfl))
  f216 := Try.func63.trans (congrArg some (by kernel_rfl))
  f257 := Try.func55.trans (congrArg some (by kernel_rfl))
  f294 := Try.func57.trans (congrArg some (by kernel_rfl))
  f295 := Try.func58.trans (congrArg some (by kernel_rfl))
  f296 := Try.func59.trans (congrArg some (by kernel_rfl))
  f297 := Try.func60.trans (congrArg some (by kernel_rfl))
  f298 := Try.func61.trans (congrArg some (by kernel_rfl))
  f299 := Try.func62.trans (congrArg some (by kernel_rfl))
  f300 := Try.func64.trans (congrArg some (by kernel_rfl))
  f301 := Try.func65.trans (congrArg some (by kernel_rfl))
  f328 := Try.func68.trans (congrArg some (by kernel_rfl))
  f329 := Try.func69.trans (congrArg some (by kernel_rfl))
  f330 := Try.func70.trans (congrArg some (by kernel_rfl))
  f331 := Try.func71.trans (congrArg some (by kernel_rfl))
  f332 := Try.func72.trans (congrArg some (by kernel_rfl))
  f343 := Try.func74.trans (congrArg some (by kernel_rfl))
  t0 := Try.underlying0
  a0 := Try.isAgg0
  z0 := Try.sizeOf0
  v0 := Try.zeroValue0
  t3 := Try.underlying3
  a3 := Try.isAgg3
  z3 := Try.sizeOf3
  v3 := Try.zeroValue3
  t4 := Try.underlying4
  a4 := Try.isAgg4
  z4 := Try.sizeOf4
  v4 := Try.zeroValue4
  t5 := Try.underlying5
  a5 := Try.isAgg5
  z5 := Try.sizeOf5
  v5 := Try.zeroValue5
  t9 := Try.underlying9
  a9 := Try.isAgg9
  z9 := Try.sizeOf9
  v9 := Try.zeroValue9
  t28 := Try.underlying23
  a28 := Try.isAgg23
  z28 := Try.sizeOf23
  v28 := Try.zeroValue23
  t46 := Try.underlying89
  a46 := Try.isAgg89
  z46 := Try.sizeOf89
  v46 := Try.zeroValue89
  t51 := Try.underlying100
  a51 := Try.isAgg100
  z51 := Try.sizeOf100
  v51 := Try.zeroValue100
  t53 := Try.underlying102
  a53 := Try.isAgg102
  z53 := Try.sizeOf102
  v53 := Try.zeroValue102
  t131 := Try.underlying97
  a131 := Try.isAgg97
  z131 := Try.sizeOf97
  v131 := Try.zeroValue97
  t182 := Try.underlying91
  a182 := Try.isAgg91
  z182 := Try.sizeOf91
  v182 := Try.zeroValue91
  t183 := Try.underlying92
  a183 := Try.isAgg92
  z183 := Try.sizeOf92
  v183 := Try.zeroValue92
  t218 := Try.underlying103
  a218 := Try.isAgg103
  z218 := Try.sizeOf103
  v218 := Try.zeroValue103
  t222 := Try.underlying107
  a222 := Try.isAgg107
  z222 := Try.sizeOf107
  v222 := Try.zeroValue107
  t228 := Try.underlying109
  a228 := Try.isAgg109
  z228 := Try.sizeOf109
  v228 := Try.zeroValue109
  t229 := Try.underlying110
  a229 := Try.isAgg110
  z229 := Try.sizeOf110
  v229 := Try.zeroValue110 }
end Go.Proofs

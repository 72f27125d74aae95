/- The contract of the library's sort, laid at this program. No conditions. -/
import Derived.Shelf.Sort.Plain
import Derived.Shelf.Slices.In.SortNone
import Derived.Test.YtifmjomfoilnnaaGreatProg
set_option linter.unusedVariables false
namespace Go.Proofs
open Go.Shelf
def Tryz.lays189_ren : Go.Shelf.Ren := ⟨fun | 189 => 119 | 125 => 131 | 257 => 130 | 128 => 144 | 129 => 145 | 294 => 135 | 295 => 136 | 296 => 137 | 297 => 138 | 298 => 139 | 299 => 140 | 216 => 141 | 300 => 142 | 301 => 143 | 328 => 148 | 329 => 149 | 330 => 150 | 331 => 151 | 332 => 152 | 215 => 153 | 343 => 154 | n => n, fun | 28 => 30 | 3 => 3 | 46 => 156 | 0 => 0 | 51 => 169 | 53 => 172 | 4 => 4 | 183 => 186 | 182 => 185 | 131 => 191 | 5 => 5 | 9 => 9 | 218 => 197 | 222 => 201 | 228 => 203 | 229 => 160 | n => n, fun | n => n⟩
theorem Tryz.lays189 : Go.Proofs.Lays.n189 Tryz.prog Tryz.lays189_ren := {
  mixed := by kernel_rfl
  f125 := Tryz.func131.trans (congrArg some (by kernel_rfl))
  f128 := Tryz.func144.trans (congrArg some (by kernel_rfl))
  f129 := Tryz.func145.trans (congrArg some (by kernel_rfl))
  f189 := Tryz.func119.trans (congrArg some (by kernel_rfl))
  f215 := Tryz.func153.trans (congrArg some (by kernel_rfl))
  f216 := Tryz.func141.trans (congrArg some (by kernel_rfl))
  f257 := Tryz.func130.trans (congrArg some (by kernel_rfl))
  f294 := Tryz.func135.trans (congrArg some (by kernel_rfl))
  f295 := Tryz.func136.trans (congrArg some (by kernel_rfl))
  f296 := Tryz.func137.trans (congrArg some (by kernel_rfl))
  f297 := Tryz.func138.trans (congrArg some (by kernel_rfl))
  f298 := Tryz.func139.trans (congrArg some (by kernel_rfl))
  f299 := Tryz.func140.trans (congrArg some (by kernel_rfl))
  f300 := Tryz.func142.trans (congrArg some (by kernel_rfl))
  f301 := Tryz.func143.trans (congrArg some (by kernel_rfl))
  f328 := Tryz.func148.trans (congrArg some (by kernel_rfl))
  f329 := Tryz.func149.trans (congrArg some (by kernel_rfl))
  f330 := Tryz.func150.trans (congrArg some (by kernel_rfl))
  f331 := Tryz.func151.trans (congrArg some (by kernel_rfl))
  f332 := Tryz.func152.trans (congrArg some (by kernel_rfl))
  f343 := Tryz.func154.trans (congrArg some (by kernel_rfl))
  t0 := Tryz.underlying0
  a0 := Tryz.isAgg0
  z0 := Tryz.sizeOf0
  v0 := Tryz.zeroValue0
  t3 := Tryz.underlying3
  a3 := Tryz.isAgg3
  z3 := Tryz.sizeOf3
  v3 := Tryz.zeroValue3
  t4 := Tryz.underlying4
  a4 := Tryz.isAgg4
  z4 := Tryz.sizeOf4
  v4 := Tryz.zeroValue4
  t5 := Tryz.underlying5
  a5 := Tryz.isAgg5
  z5 := Tryz.sizeOf5
  v5 := Tryz.zeroValue5
  t9 := Tryz.underlying9
  a9 := Tryz.isAgg9
  z9 := Tryz.sizeOf9
  v9 := Tryz.zeroValue9
  t28 := Tryz.underlying30
  a28 := Tryz.isAgg30
  z28 := Tryz.sizeOf30
  v28 := Tryz.zeroValue30
  t46 := Tryz.underlying156
  a46 := Tryz.isAgg156
  z46 := Tryz.sizeOf156
  v46 := Tryz.zeroValue156
  t51 := Tryz.underlying169
  a51 := Tryz.isAgg169
  z51 := Tryz.sizeOf169
  v51 := Tryz.zeroValue169
  t53 := Tryz.underlying172
  a53 := Tryz.isAgg172
  z53 := Tryz.sizeOf172
  v53 := Tryz.zeroValue172
  t131 := Tryz.underlying191
  a131 := Tryz.isAgg191
  z131 := Tryz.sizeOf191
  v131 := Tryz.zeroValue191
  t182 := Tryz.underlying185
  a182 := Tryz.isAgg185
  z182 := Tryz.sizeOf185
  v182 := Tryz.zeroValue185
  t183 := Tryz.underlying186
  a183 := Tryz.isAgg186
  z183 := Tryz.sizeOf186
  v183 := Tryz.zeroValue186
  t218 := Tryz.underlying197
  a218 := Tryz.isAgg197
  z218 := Tryz.sizeOf197
  v218 := Tryz.zeroValue197
  t222 := Tryz.underlying201
  a222 := Tryz.isAgg201
  z222 := Tryz.sizeOf201
  v222 := Tryz.zeroValue201
  t228 := Tryz.underlying203
  a228 := Tryz.isAgg203
  z228 := Tryz.sizeOf203
  v228 := Tryz.zeroValue203
  t229 := Tryz.underlying160
  a229 := Tryz.isAgg160
  z229 := Tryz.sizeOf160
  v229 := Tryz.zeroValue160 }
end Go.Proofs

/- Contracts and words, several texts in one. -/
import Derived.Test.YthhpamaeibjpaaaDoorProg
import Derived.Shelf.SlicesE.DeleteFunc
import Derived.Shelf.Sort.Plain
import Derived.Ground.SlgfProg
section
namespace Go.Proofs
open Go.Shelf
def Tryd.delL_ren : Go.Shelf.Ren := ⟨fun | 10 => 85 | 6 => 87 | n => n, fun | 22 => 23 | 23 => 3 | 25 => 72 | 3 => 3 | 4 => 4 | 0 => 0 | n => n, fun | n => n⟩
theorem Tryd.delL : Go.Proofs.SlLaysH.n10 Tryd.prog Tryd.delL_ren := {
  mixed := by kernel_rfl
  f6 := ⟨Tryd.f87.name, by decide, Tryd.func87.trans (congrArg some (by kernel_rfl))⟩
  f10 := ⟨Tryd.f85.name, by decide, Tryd.func85.trans (congrArg some (by kernel_rfl))⟩
  t0 := Tryd.underlying0
  a0 := Tryd.isAgg0
  z0 := Tryd.sizeOf0
  v0 := Tryd.zeroValue0
  t3 := Tryd.underlying3
  a3 := Tryd.isAgg3
  z3 := Tryd.sizeOf3
  v3 := Tryd.zeroValue3
  t4 := Tryd.underlying4
  a4 := Tryd.isAgg4
  z4 := Tryd.sizeOf4
  v4 := Tryd.zeroValue4
  t22 := Tryd.underlying23
  a22 := Tryd.isAgg23
  z22 := Tryd.sizeOf23
  v22 := Tryd.zeroValue23
  a23 := Tryd.isAgg3
  z23 := Tryd.sizeOf3
  t25 := Tryd.underlying72
  a25 := Tryd.isAgg72
  z25 := Tryd.sizeOf72
  v25 := Tryd.zeroValue72 }
def Tryd.sortL_ren : Go.Shelf.Ren := ⟨fun | 189 => 84 | 125 => 91 | 257 => 90 | 128 => 101 | 129 => 102 | 294 => 92 | 295 => 93 | 296 => 94 | 297 => 95 | 298 => 96 | 299 => 97 | 216 => 98 | 300 => 99 | 301 => 100 | 328 => 103 | 329 => 104 | 330 => 105 | 331 => 106 | 332 => 107 | 215 => 108 | 343 => 109 | n => n, fun | 28 => 23 | 3 => 3 | 46 => 126 | 0 => 0 | 51 => 137 | 53 => 124 | 4 => 4 | 183 => 157 | 182 => 156 | 131 => 162 | 5 => 5 | 9 => 9 | 218 => 166 | 222 => 86 | 228 => 171 | 229 => 172 | n => n, fun | n => n⟩
theorem Tryd.sortL : Go.Proofs.Lays.n189 Tryd.prog Tryd.sortL_ren := {
  mixed := by kernel_rfl
  f125 := Tryd.func91.trans (congrArg some (by kernel_rfl))
  f128 := Tryd.func101.trans (congrArg some (by kernel_rfl))
  f129 := Tryd.func102.trans (congrArg some (by kernel_rfl))
  f189 := Tryd.func84.trans (congrArg some (by kernel_rfl))
  f215 := Tryd.func108.trans (congrArg some (by kernel_rfl))
  f216 := Tryd.func98.trans (congrArg some (by kernel_rfl))
  f257 := Tryd.func90.trans (congrArg some (by kernel_rfl))
  f294 := Tryd.func92.trans (congrArg some (by kernel_rfl))
  f295 := Tryd.func93.trans (congrArg some (by kernel_rfl))
  f296 := Tryd.func94.trans (congrArg some (by kernel_rfl))
  f297 := Tryd.func95.trans (congrArg some (by kernel_rfl))
  f298 := Tryd.func96.trans (congrArg some (by kernel_rfl))
  f299 := Tryd.func97.trans (congrArg some (by kernel_rfl))
  f300 := Tryd.func99.trans (congrArg some (by kernel_rfl))
  f301 := Tryd.func100.trans (congrArg some (by kernel_rfl))
  f328 := Tryd.func103.trans (congrArg some (by kernel_rfl))
  f329 := Tryd.func104.trans (congrArg some (by kernel_rfl))
  f330 := Tryd.func105.trans (congrArg some (by kernel_rfl))
  f331 := Tryd.func106.trans (congrArg some (by kernel_rfl))
  f332 := Tryd.func107.trans (congrArg some (by kernel_rfl))
  f343 := Tryd.func109.trans (congrArg some (by kernel_rfl))
  t0 := Tryd.underlying0
  a0 := Tryd.isAgg0
  z0 := Tryd.sizeOf0
  v0 := Tryd.zeroValue0
  t3 := Tryd.underlying3
  a3 := Tryd.isAgg3
  z3 := Tryd.sizeOf3
  v3 := Tryd.zeroValue3
  t4 := Tryd.underlying4
  a4 := Tryd.isAgg4
  z4 := Tryd.sizeOf4
  v4 := Tryd.zeroValue4
  t5 := Tryd.underlying5
  a5 := Tryd.isAgg5
  z5 := Tryd.sizeOf5
  v5 := Tryd.zeroValue5
  t9 := Tryd.underlying9
  a9 := Tryd.isAgg9
  z9 := Tryd.sizeOf9
  v9 := Tryd.zeroValue9
  t28 := Tryd.underlying23
  a28 := Tryd.isAgg23
  z28 := Tryd.sizeOf23
  v28 := Tryd.zeroValue23
  t46 := Tryd.underlying126
  a46 := Tryd.isAgg126
  z46 := Tryd.sizeOf126
  v46 := Tryd.zeroValue126
  t51 := Tryd.underlying137
  a51 := Tryd.isAgg137
  z51 := Tryd.sizeOf137
  v51 := Tryd.zeroValue137
  t53 := Tryd.underlying124
  a53 := Tryd.isAgg124
  z53 := Tryd.sizeOf124
  v53 := Tryd.zeroValue124
  t131 := Tryd.underlying162
  a131 := Tryd.isAgg162
  z131 := Tryd.sizeOf162
  v131 := Tryd.zeroValue162
  t182 := Tryd.underlying156
  a182 := Tryd.isAgg156
  z182 := Tryd.sizeOf156
  v182 := Tryd.zeroValue156
  t183 := Tryd.underlying157
  a183 := Tryd.isAgg157
  z183 := Tryd.sizeOf157
  v183 := Tryd.zeroValue157
  t218 := Tryd.underlying166
  a218 := Tryd.isAgg166
  z218 := Tryd.sizeOf166
  v218 := Tryd.zeroValue166
  t222 := Tryd.underlying86
  a222 := Tryd.isAgg86
  z222 := Tryd.sizeOf86
  v222 := Tryd.zeroValue86
  t228 := Tryd.underlying171
  a228 := Tryd.isAgg171
  z228 := Tryd.sizeOf171
  v228 := Tryd.zeroValue171
  t229 := Tryd.underlying172
  a229 := Tryd.isAgg172
  z229 := Tryd.sizeOf172
  v229 := Tryd.zeroValue172 }
end Go.Proofs
end

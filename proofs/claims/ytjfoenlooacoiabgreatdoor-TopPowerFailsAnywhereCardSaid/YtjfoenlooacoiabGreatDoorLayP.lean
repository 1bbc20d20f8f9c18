/- A text of the proof: a verified executor of the program form, or the contracts of the functions that the law reaches. -/
import Derived.Shelf.Small.Bits
import Derived.Shelf.Small.Wraps
import Derived.Shelf.Strconv.Itoa0
import Derived.Shelf.Sort.Plain
import Derived.Ground.Names2Prog
import Derived.Shelf.Slices.Clone
import Derived.Shelf.Slices.SearchI
import Derived.Shelf.Slices.In.SortNone
import Derived.Ground.SlgnProg
import Derived.Shelf.SlicesE.Clone
import Derived.Test.YtjfoenlooacoiabGreatDoorProg
set_option linter.all false
namespace Go.Proofs
open Go.Shelf
def Tryz.lays189_ren : Go.Shelf.Ren := ⟨fun | 189 => 24 | 125 => 53 | 257 => 52 | 128 => 82 | 129 => 83 | 294 => 73 | 295 => 74 | 296 => 75 | 297 => 76 | 298 => 77 | 299 => 78 | 216 => 79 | 300 => 80 | 301 => 81 | 328 => 93 | 329 => 94 | 330 => 95 | 331 => 96 | 332 => 97 | 215 => 98 | 343 => 101 | n => n, fun | 28 => 46 | 3 => 3 | 46 => 83 | 0 => 0 | 51 => 134 | 53 => 136 | 4 => 4 | 183 => 127 | 182 => 126 | 131 => 29 | 5 => 5 | 9 => 9 | 218 => 146 | 222 => 150 | 228 => 154 | 229 => 155 | n => n, fun | n => n⟩
theorem Tryz.lays189 : Go.Proofs.Lays.n189 Tryz.prog Tryz.lays189_ren := {
  mixed := by kernel_rfl
  f125 := Tryz.func53.trans (congrArg some (by kernel_rfl))
  f128 := Tryz.func82.trans (congrArg some (by kernel_rfl))
  f129 := Tryz.func83.trans (congrArg some (by kernel_rfl))
  f189 := Tryz.func24.trans (congrArg some (by kernel_rfl))
  f215 := Tryz.func98.trans (congrArg some (by kernel_rfl))
  f216 := Tryz.func79.trans (congrArg some (by kernel_rfl))
  f257 := Tryz.func52.trans (congrArg some (by kernel_rfl))
  f294 := Tryz.func73.trans (congrArg some (by kernel_rfl))
  f295 := Tryz.func74.trans (congrArg some (by kernel_rfl))
  f296 := Tryz.func75.trans (congrArg some (by kernel_rfl))
  f297 := Tryz.func76.trans (congrArg some (by kernel_rfl))
  f298 := Tryz.func77.trans (congrArg some (by kernel_rfl))
  f299 := Tryz.func78.trans (congrArg some (by kernel_rfl))
  f300 := Tryz.func80.trans (congrArg some (by kernel_rfl))
  f301 := Tryz.func81.trans (congrArg some (by kernel_rfl))
  f328 := Tryz.func93.trans (congrArg some (by kernel_rfl))
  f329 := Tryz.func94.trans (congrArg some (by kernel_rfl))
  f330 := Tryz.func95.trans (congrArg some (by kernel_rfl))
  f331 := Tryz.func96.trans (congrArg some (by kernel_rfl))
  f332 := Tryz.func97.trans (congrArg some (by kernel_rfl))
  f343 := Tryz.func101.trans (congrArg some (by kernel_rfl))
  t0 := Tryz.underlying0
  a0 := Tryz.isAgg0
  z0 := Tryz.sizeOf0
  v0 := Tryz.zeroValue0
  t3 := Tryz.underlying3
  a3 := Tryz.isAgg3
  z3 := Tryz.sizeOf3
  v3 := Tryz.zeroValue3
  t4 := Tryz.underlying4
  a4 := Tryz.isAgg4
  z4 := Tryz.sizeOf4
  v4 := Tryz.zeroValue4
  t5 := Tryz.underlying5
  a5 := Tryz.isAgg5
  z5 := Tryz.sizeOf5
  v5 := Tryz.zeroValue5
  t9 := Tryz.underlying9
  a9 := Tryz.isAgg9
  z9 := Tryz.sizeOf9
  v9 := Tryz.zeroValue9
  t28 := Tryz.underlying46
  a28 := Tryz.isAgg46
  z28 := Tryz.sizeOf46
  v28 := Tryz.zeroValue46
  t46 := Tryz.underlying83
  a46 := Tryz.isAgg83
  z46 := Tryz.sizeOf83
  v46 := Tryz.zeroValue83
  t51 := Tryz.underlying134
  a51 := Tryz.isAgg134
  z51 := Tryz.sizeOf134
  v51 := Tryz.zeroValue134
  t53 := Tryz.underlying136
  a53 := Tryz.isAgg136
  z53 := Tryz.sizeOf136
  v53 := Tryz.zeroValue136
  t131 := Tryz.underlying29
  a131 := Tryz.isAgg29
  z131 := Tryz.sizeOf29
  v131 := Tryz.zeroValue29
  t182 := Tryz.underlying126
  a182 := Tryz.isAgg126
  z182 := Tryz.sizeOf126
  v182 := Tryz.zeroValue126
  t183 := Tryz.underlying127
  a183 := Tryz.isAgg127
  z183 := Tryz.sizeOf127
  v183 := Tryz.zeroValue127
  t218 := Tryz.underlying146
  a218 := Tryz.isAgg146
  z218 := Tryz.sizeOf146
  v218 := Tryz.zeroValue146
  t222 := Tryz.underlying150
  a222 := Tryz.isAgg150
  z222 := Tryz.sizeOf150
  v222 := Tryz.zeroValue150
  t228 := Tryz.underlying154
  a228 := Tryz.isAgg154
  z228 := Tryz.sizeOf154
  v228 := Tryz.zeroValue154
  t229 := Tryz.underlying155
  a229 := Tryz.isAgg155
  z229 := Tryz.sizeOf155
  v229 := Tryz.zeroValue155 }
end Go.Proofs

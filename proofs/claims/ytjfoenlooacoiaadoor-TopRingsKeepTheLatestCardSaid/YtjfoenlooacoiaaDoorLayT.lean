/- A text of the proof: a verified executor of the program form, or the contracts of the functions that the law reaches. -/
import Derived.Shelf.Small.Bits
import Derived.Shelf.Small.Wraps
import Derived.Shelf.Strconv.Itoa0
import Derived.Shelf.Sort.Plain
import Derived.Shelf.Slices.Turned
import Derived.Ground.Names2Prog
import Derived.Shelf.Slices.Clone
import Derived.Shelf.Slices.SearchI
import Derived.Shelf.Slices.In.SortNone
import Derived.Ground.SlgnProg
import Derived.Shelf.SlicesE.Clone
import Derived.Test.YtjfoenlooacoiaaDoorProg
set_option linter.all false
namespace Go.Proofs
open Go.Shelf
def Tryd.lays189_ren : Go.Shelf.Ren := ⟨fun | 189 => 22 | 125 => 45 | 257 => 44 | 128 => 74 | 129 => 75 | 294 => 65 | 295 => 66 | 296 => 67 | 297 => 68 | 298 => 69 | 299 => 70 | 216 => 71 | 300 => 72 | 301 => 73 | 328 => 85 | 329 => 86 | 330 => 87 | 331 => 88 | 332 => 89 | 215 => 90 | 343 => 93 | n => n, fun | 28 => 32 | 3 => 3 | 46 => 49 | 0 => 0 | 51 => 131 | 53 => 133 | 4 => 4 | 183 => 124 | 182 => 123 | 131 => 66 | 5 => 5 | 9 => 9 | 218 => 143 | 222 => 147 | 228 => 151 | 229 => 152 | n => n, fun | n => n⟩
theorem Tryd.lays189 : Go.Proofs.Lays.n189 Tryd.prog Tryd.lays189_ren := {
  mixed := by kernel_rfl
  f125 := Tryd.func45.trans (congrArg some (by kernel_rfl))
  f128 := Tryd.func74.trans (congrArg some (by kernel_rfl))
  f129 := Tryd.func75.trans (congrArg some (by kernel_rfl))
  f189 := Tryd.func22.trans (congrArg some (by kernel_rfl))
  f215 := Tryd.func90.trans (congrArg some (by kernel_rfl))
  f216 := Tryd.func71.trans (congrArg some (by kernel_rfl))
  f257 := Tryd.func44.trans (congrArg some (by kernel_rfl))
  f294 := Tryd.func65.trans (congrArg some (by kernel_rfl))
  f295 := Tryd.func66.trans (congrArg some (by kernel_rfl))
  f296 := Tryd.func67.trans (congrArg some (by kernel_rfl))
  f297 := Tryd.func68.trans (congrArg some (by kernel_rfl))
  f298 := Tryd.func69.trans (congrArg some (by kernel_rfl))
  f299 := Tryd.func70.trans (congrArg some (by kernel_rfl))
  f300 := Tryd.func72.trans (congrArg some (by kernel_rfl))
  f301 := Tryd.func73.trans (congrArg some (by kernel_rfl))
  f328 := Tryd.func85.trans (congrArg some (by kernel_rfl))
  f329 := Tryd.func86.trans (congrArg some (by kernel_rfl))
  f330 := Tryd.func87.trans (congrArg some (by kernel_rfl))
  f331 := Tryd.func88.trans (congrArg some (by kernel_rfl))
  f332 := Tryd.func89.trans (congrArg some (by kernel_rfl))
  f343 := Tryd.func93.trans (congrArg some (by kernel_rfl))
  t0 := Tryd.underlying0
  a0 := Tryd.isAgg0
  z0 := Tryd.sizeOf0
  v0 := Tryd.zeroValue0
  t3 := Tryd.underlying3
  a3 := Tryd.isAgg3
  z3 := Tryd.sizeOf3
  v3 := Tryd.zeroValue3
  t4 := Tryd.underlying4
  a4 := Tryd.isAgg4
  z4 := Tryd.sizeOf4
  v4 := Tryd.zeroValue4
  t5 := Tryd.underlying5
  a5 := Tryd.isAgg5
  z5 := Tryd.sizeOf5
  v5 := Tryd.zeroValue5
  t9 := Tryd.underlying9
  a9 := Tryd.isAgg9
  z9 := Tryd.sizeOf9
  v9 := Tryd.zeroValue9
  t28 := Tryd.underlying32
  a28 := Tryd.isAgg32
  z28 := Tryd.sizeOf32
  v28 := Tryd.zeroValue32
  t46 := Tryd.underlying49
  a46 := Tryd.isAgg49
  z46 := Tryd.sizeOf49
  v46 := Tryd.zeroValue49
  t51 := Tryd.underlying131
  a51 := Tryd.isAgg131
  z51 := Tryd.sizeOf131
  v51 := Tryd.zeroValue131
  t53 := Tryd.underlying133
  a53 := Tryd.isAgg133
  z53 := Tryd.sizeOf133
  v53 := Tryd.zeroValue133
  t131 := Tryd.underlying66
  a131 := Tryd.isAgg66
  z131 := Tryd.sizeOf66
  v131 := Tryd.zeroValue66
  t182 := Tryd.underlying123
  a182 := Tryd.isAgg123
  z182 := Tryd.sizeOf123
  v182 := Tryd.zeroValue123
  t183 := Tryd.underlying124
  a183 := Tryd.isAgg124
  z183 := Tryd.sizeOf124
  v183 := Tryd.zeroValue124
  t218 := Tryd.underlying143
  a218 := Tryd.isAgg143
  z218 := Tryd.sizeOf143
  v218 := Tryd.zeroValue143
  t222 := Tryd.underlying147
  a222 := Tryd.isAgg147
  z222 := Tryd.sizeOf147
  v222 := Tryd.zeroValue147
  t228 := Tryd.underlying151
  a228 := Tryd.isAgg151
  z228 := Tryd.sizeOf151
  v228 := Tryd.zeroValue151
  t229 := Tryd.underlying152
  a229 := Tryd.isAgg152
  z229 := Tryd.sizeOf152
  v229 := Tryd.zeroValue152 }
end Go.Proofs

/- A text of the proof: a verified executor of the program form, or the contracts of the functions that the law reaches. -/
import Derived.Shelf.Small.Bits
import Derived.Shelf.Strconv.Itoa0
import Derived.Shelf.Sort.Plain
import Derived.Shelf.Bits.Mul64
import Derived.Shelf.Slices.Equal
import Derived.Ground.Names2Prog
import Derived.Shelf.Slices.Clone
import Derived.Shelf.Slices.SearchI
import Derived.Shelf.Slices.In.SortNone
import Derived.Shelf.Slices.Empties2
import Derived.Ground.SlgnProg
import Derived.Shelf.SlicesE.Clone
import Derived.Test.YtnlmjeleocelgaaDoorProg
set_option linter.all false
namespace Go.Proofs
open Go.Shelf
def Tryd.lays189_ren : Go.Shelf.Ren := ⟨fun | 189 => 43 | 125 => 72 | 257 => 71 | 128 => 94 | 129 => 95 | 294 => 85 | 295 => 86 | 296 => 87 | 297 => 88 | 298 => 89 | 299 => 90 | 216 => 91 | 300 => 92 | 301 => 93 | 328 => 98 | 329 => 99 | 330 => 100 | 331 => 101 | 332 => 102 | 215 => 103 | 343 => 105 | n => n, fun | 28 => 22 | 3 => 3 | 46 => 104 | 0 => 0 | 51 => 140 | 53 => 143 | 4 => 4 | 183 => 148 | 182 => 147 | 131 => 66 | 5 => 5 | 9 => 9 | 218 => 158 | 222 => 162 | 228 => 164 | 229 => 165 | n => n, fun | n => n⟩
theorem Tryd.lays189 : Go.Proofs.Lays.n189 Tryd.prog Tryd.lays189_ren := {
  mixed := by kernel_rfl
  f125 := Tryd.func72.trans (congrArg some (by kernel_rfl))
  f128 := Tryd.func94.trans (congrArg some (by kernel_rfl))
  f129 := Tryd.func95.trans (congrArg some (by kernel_rfl))
  f189 := Tryd.func43.trans (congrArg some (by kernel_rfl))
  f215 := Tryd.func103.trans (congrArg some (by kernel_rfl))
  f216 := Tryd.func91.trans (congrArg some (by kernel_rfl))
  f257 := Tryd.func71.trans (congrArg some (by kernel_rfl))
  f294 := Tryd.func85.trans (congrArg some (by kernel_rfl))
  f295 := Tryd.func86.trans (congrArg some (by kernel_rfl))
  f296 := Tryd.func87.trans (congrArg some (by kernel_rfl))
  f297 := Tryd.func88.trans (congrArg some (by kernel_rfl))
  f298 := Tryd.func89.trans (congrArg some (by kernel_rfl))
  f299 := Tryd.func90.trans (congrArg some (by kernel_rfl))
  f300 := Tryd.func92.trans (congrArg some (by kernel_rfl))
  f301 := Tryd.func93.trans (congrArg some (by kernel_rfl))
  f328 := Tryd.func98.trans (congrArg some (by kernel_rfl))
  f329 := Tryd.func99.trans (congrArg some (by kernel_rfl))
  f330 := Tryd.func100.trans (congrArg some (by kernel_rfl))
  f331 := Tryd.func101.trans (congrArg some (by kernel_rfl))
  f332 := Tryd.func102.trans (congrArg some (by kernel_rfl))
  f343 := Tryd.func105.trans (congrArg some (by kernel_rfl))
  t0 := Tryd.underlying0
  a0 := Tryd.isAgg0
  z0 := Tryd.sizeOf0
  v0 := Tryd.zeroValue0
  t3 := Tryd.underlying3
  a3 := Tryd.isAgg3
  z3 := Tryd.sizeOf3
  v3 := Tryd.zeroValue3
  t4 := Tryd.underlying4
  a4 := Tryd.isAgg4
  z4 := Tryd.sizeOf4
  v4 := Tryd.zeroValue4
  t5 := Tryd.underlying5
  a5 := Tryd.isAgg5
  z5 := Tryd.sizeOf5
  v5 := Tryd.zeroValue5
  t9 := Tryd.underlying9
  a9 := Tryd.isAgg9
  z9 := Tryd.sizeOf9
  v9 := Tryd.zeroValue9
  t28 := Tryd.underlying22
  a28 := Tryd.isAgg22
  z28 := Tryd.sizeOf22
  v28 := Tryd.zeroValue22
  t46 := Tryd.underlying104
  a46 := Tryd.isAgg104
  z46 := Tryd.sizeOf104
  v46 := Tryd.zeroValue104
  t51 := Tryd.underlying140
  a51 := Tryd.isAgg140
  z51 := Tryd.sizeOf140
  v51 := Tryd.zeroValue140
  t53 := Tryd.underlying143
  a53 := Tryd.isAgg143
  z53 := Tryd.sizeOf143
  v53 := Tryd.zeroValue143
  t131 := Tryd.underlying66
  a131 := Tryd.isAgg66
  z131 := Tryd.sizeOf66
  v131 := Tryd.zeroValue66
  t182 := Tryd.underlying147
  a182 := Tryd.isAgg147
  z182 := Tryd.sizeOf147
  v182 := Tryd.zeroValue147
  t183 := Tryd.underlying148
  a183 := Tryd.isAgg148
  z183 := Tryd.sizeOf148
  v183 := Tryd.zeroValue148
  t218 := Tryd.underlying158
  a218 := Tryd.isAgg158
  z218 := Tryd.sizeOf158
  v218 := Tryd.zeroValue158
  t222 := Tryd.underlying162
  a222 := Tryd.isAgg162
  z222 := Tryd.sizeOf162
  v222 := Tryd.zeroValue162
  t228 := Tryd.underlying164
  a228 := Tryd.isAgg164
  z228 := Tryd.sizeOf164
  v228 := Tryd.zeroValue164
  t229 := Tryd.underlying165
  a229 := Tryd.isAgg165
  z229 := Tryd.sizeOf165
  v229 := Tryd.zeroValue165 }
end Go.Proofs

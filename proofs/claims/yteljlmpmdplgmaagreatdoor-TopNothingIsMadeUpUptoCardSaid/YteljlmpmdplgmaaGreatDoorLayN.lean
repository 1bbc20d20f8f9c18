/- A text of the proof: a verified executor of the program form, or the contracts of the functions that the law reaches. -/
import Derived.Shelf.Small.Bits
import Derived.Shelf.Small.Wraps
import Derived.Shelf.Strconv.Itoa0
import Derived.Shelf.Sort.Plain
import Derived.Ground.Names2Prog
import Derived.Shelf.Slices.SearchI
import Derived.Shelf.Slices.In.SortNone
import Derived.Test.YteljlmpmdplgmaaGreatDoorProg
set_option linter.all false
namespace Go.Proofs
open Go.Shelf
def Tryz.lays189_ren : Go.Shelf.Ren := ⟨fun | 189 => 45 | 125 => 63 | 257 => 62 | 128 => 95 | 129 => 96 | 294 => 86 | 295 => 87 | 296 => 88 | 297 => 89 | 298 => 90 | 299 => 91 | 216 => 92 | 300 => 93 | 301 => 94 | 328 => 101 | 329 => 102 | 330 => 103 | 331 => 104 | 332 => 105 | 215 => 106 | 343 => 110 | n => n, fun | 28 => 54 | 3 => 3 | 46 => 71 | 0 => 0 | 51 => 136 | 53 => 138 | 4 => 4 | 183 => 129 | 182 => 128 | 131 => 104 | 5 => 5 | 9 => 9 | 218 => 144 | 222 => 148 | 228 => 153 | 229 => 154 | n => n, fun | n => n⟩
theorem Tryz.lays189 : Go.Proofs.Lays.n189 Tryz.prog Tryz.lays189_ren := {
  mixed := by kernel_rfl
  f125 := Tryz.func63.trans (congrArg some (by kernel_rfl))
  f128 := Tryz.func95.trans (congrArg some (by kernel_rfl))
  f129 := Tryz.func96.trans (congrArg some (by kernel_rfl))
  f189 := Tryz.func45.trans (congrArg some (by kernel_rfl))
  f215 := Tryz.func106.trans (congrArg some (by kernel_rfl))
  f216 := Tryz.func92.trans (congrArg some (by kernel_rfl))
  f257 := Tryz.func62.trans (congrArg some (by kernel_rfl))
  f294 := Tryz.func86.trans (congrArg some (by kernel_rfl))
  f295 := Tryz.func87.trans (congrArg some (by kernel_rfl))
  f296 := Tryz.func88.trans (congrArg some (by kernel_rfl))
  f297 := Tryz.func89.trans (congrArg some (by kernel_rfl))
  f298 := Tryz.func90.trans (congrArg some (by kernel_rfl))
  f299 := Tryz.func91.trans (congrArg some (by kernel_rfl))
  f300 := Tryz.func93.trans (congrArg some (by kernel_rfl))
  f301 := Tryz.func94.trans (congrArg some (by kernel_rfl))
  f328 := Tryz.func101.trans (congrArg some (by kernel_rfl))
  f329 := Tryz.func102.trans (congrArg some (by kernel_rfl))
  f330 := Tryz.func103.trans (congrArg some (by kernel_rfl))
  f331 := Tryz.func104.trans (congrArg some (by kernel_rfl))
  f332 := Tryz.func105.trans (congrArg some (by kernel_rfl))
  f343 := Tryz.func110.trans (congrArg some (by kernel_rfl))
  t0 := Tryz.underlying0
  a0 := Tryz.isAgg0
  z0 := Tryz.sizeOf0
  v0 := Tryz.zeroValue0
  t3 := Tryz.underlying3
  a3 := Tryz.isAgg3
  z3 := Tryz.sizeOf3
  v3 := Tryz.zeroValue3
  t4 := Tryz.underlying4
  a4 := Tryz.isAgg4
  z4 := Tryz.sizeOf4
  v4 := Tryz.zeroValue4
  t5 := Tryz.underlying5
  a5 := Tryz.isAgg5
  z5 := Tryz.sizeOf5
  v5 := Tryz.zeroValue5
  t9 := Tryz.underlying9
  a9 := Tryz.isAgg9
  z9 := Tryz.sizeOf9
  v9 := Tryz.zeroValue9
  t28 := Tryz.underlying54
  a28 := Tryz.isAgg54
  z28 := Tryz.sizeOf54
  v28 := Tryz.zeroValue54
  t46 := Tryz.underlying71
  a46 := Tryz.isAgg71
  z46 := Tryz.sizeOf71
  v46 := Tryz.zeroValue71
  t51 := Tryz.underlying136
  a51 := Tryz.isAgg136
  z51 := Tryz.sizeOf136
  v51 := Tryz.zeroValue136
  t53 := Tryz.underlying138
  a53 := Tryz.isAgg138
  z53 := Tryz.sizeOf138
  v53 := Tryz.zeroValue138
  t131 := Tryz.underlying104
  a131 := Tryz.isAgg104
  z131 := Tryz.sizeOf104
  v131 := Tryz.zeroValue104
  t182 := Tryz.underlying128
  a182 := Tryz.isAgg128
  z182 := Tryz.sizeOf128
  v182 := Tryz.zeroValue128
  t183 := Tryz.underlying129
  a183 := Tryz.isAgg129
  z183 := Tryz.sizeOf129
  v183 := Tryz.zeroValue129
  t218 := Tryz.underlying144
  a218 := Tryz.isAgg144
  z218 := Tryz.sizeOf144
  v218 := Tryz.zeroValue144
  t222 := Tryz.underlying148
  a222 := Tryz.isAgg148
  z222 := Tryz.sizeOf148
  v222 := Tryz.zeroValue148
  t228 := Tryz.underlying153
  a228 := Tryz.isAgg153
  z228 := Tryz.sizeOf153
  v228 := Tryz.zeroValue153
  t229 := Tryz.underlying154
  a229 := Tryz.isAgg154
  z229 := Tryz.sizeOf154
  v229 := Tryz.zeroValue154 }
end Go.Proofs

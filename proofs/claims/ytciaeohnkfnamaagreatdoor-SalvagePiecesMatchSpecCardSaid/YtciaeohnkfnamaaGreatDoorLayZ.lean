/- A text of the proof: a verified executor of the program form, or the contracts of the functions that the law reaches. -/
import Derived.Shelf.Small.Bits
import Derived.Shelf.Strconv.Itoa0
import Derived.Shelf.Strconv.Itoa1
import Derived.Shelf.LaysM
import Derived.Shelf.Strconv.Itoa2
import Derived.Shelf.Sort.Plain
import Derived.Shelf.Strconv.AppendUint10
import Derived.Shelf.GgClosure.StringsIndexFunc
import Derived.Ground.GgwProg
import Derived.Shelf.GgClosure.StringsIndexFuncTop
import Derived.Shelf.Strings.FuncGrows
import Derived.Shelf.Slices.Turned
import Derived.Ground.Names2Prog
import Derived.Shelf.Slices.SearchI
import Derived.Shelf.Slices.In.SortNone
import Derived.Shelf.Bytes.Small
import Derived.Test.YtciaeohnkfnamaaGreatDoorProg
set_option linter.all false
namespace Go.Proofs
open Go.Shelf
def Tryz.lays189_ren : Go.Shelf.Ren := ⟨fun | 189 => 245 | 125 => 281 | 257 => 280 | 128 => 295 | 129 => 296 | 294 => 286 | 295 => 287 | 296 => 288 | 297 => 289 | 298 => 290 | 299 => 291 | 216 => 292 | 300 => 293 | 301 => 294 | 328 => 301 | 329 => 302 | 330 => 303 | 331 => 304 | 332 => 305 | 215 => 306 | 343 => 311 | n => n, fun | 28 => 28 | 3 => 3 | 46 => 164 | 0 => 0 | 51 => 313 | 53 => 301 | 4 => 4 | 183 => 306 | 182 => 305 | 131 => 139 | 5 => 5 | 9 => 9 | 218 => 320 | 222 => 324 | 228 => 329 | 229 => 202 | n => n, fun | n => n⟩
theorem Tryz.lays189 : Go.Proofs.Lays.n189 Tryz.prog Tryz.lays189_ren := {
  mixed := by kernel_rfl
  f125 := Tryz.func281.trans (congrArg some (by kernel_rfl))
  f128 := Tryz.func295.trans (congrArg some (by kernel_rfl))
  f129 := Tryz.func296.trans (congrArg some (by kernel_rfl))
  f189 := Tryz.func245.trans (congrArg some (by kernel_rfl))
  f215 := Tryz.func306.trans (congrArg some (by kernel_rfl))
  f216 := Tryz.func292.trans (congrArg some (by kernel_rfl))
  f257 := Tryz.func280.trans (congrArg some (by kernel_rfl))
  f294 := Tryz.func286.trans (congrArg some (by kernel_rfl))
  f295 := Tryz.func287.trans (congrArg some (by kernel_rfl))
  f296 := Tryz.func288.trans (congrArg some (by kernel_rfl))
  f297 := Tryz.func289.trans (congrArg some (by kernel_rfl))
  f298 := Tryz.func290.trans (congrArg some (by kernel_rfl))
  f299 := Tryz.func291.trans (congrArg some (by kernel_rfl))
  f300 := Tryz.func293.trans (congrArg some (by kernel_rfl))
  f301 := Tryz.func294.trans (congrArg some (by kernel_rfl))
  f328 := Tryz.func301.trans (congrArg some (by kernel_rfl))
  f329 := Tryz.func302.trans (congrArg some (by kernel_rfl))
  f330 := Tryz.func303.trans (congrArg some (by kernel_rfl))
  f331 := Tryz.func304.trans (congrArg some (by kernel_rfl))
  f332 := Tryz.func305.trans (congrArg some (by kernel_rfl))
  f343 := Tryz.func311.trans (congrArg some (by kernel_rfl))
  t0 := Tryz.underlying0
  a0 := Tryz.isAgg0
  z0 := Tryz.sizeOf0
  v0 := Tryz.zeroValue0
  t3 := Tryz.underlying3
  a3 := Tryz.isAgg3
  z3 := Tryz.sizeOf3
  v3 := Tryz.zeroValue3
  t4 := Tryz.underlying4
  a4 := Tryz.isAgg4
  z4 := Tryz.sizeOf4
  v4 := Tryz.zeroValue4
  t5 := Tryz.underlying5
  a5 := Tryz.isAgg5
  z5 := Tryz.sizeOf5
  v5 := Tryz.zeroValue5
  t9 := Tryz.underlying9
  a9 := Tryz.isAgg9
  z9 := Tryz.sizeOf9
  v9 := Tryz.zeroValue9
  t28 := Tryz.underlying28
  a28 := Tryz.isAgg28
  z28 := Tryz.sizeOf28
  v28 := Tryz.zeroValue28
  t46 := Tryz.underlying164
  a46 := Tryz.isAgg164
  z46 := Tryz.sizeOf164
  v46 := Tryz.zeroValue164
  t51 := Tryz.underlying313
  a51 := Tryz.isAgg313
  z51 := Tryz.sizeOf313
  v51 := Tryz.zeroValue313
  t53 := Tryz.underlying301
  a53 := Tryz.isAgg301
  z53 := Tryz.sizeOf301
  v53 := Tryz.zeroValue301
  t131 := Tryz.underlying139
  a131 := Tryz.isAgg139
  z131 := Tryz.sizeOf139
  v131 := Tryz.zeroValue139
  t182 := Tryz.underlying305
  a182 := Tryz.isAgg305
  z182 := Tryz.sizeOf305
  v182 := Tryz.zeroValue305
  t183 := Tryz.underlying306
  a183 := Tryz.isAgg306
  z183 := Tryz.sizeOf306
  v183 := Tryz.zeroValue306
  t218 := Tryz.underlying320
  a218 := Tryz.isAgg320
  z218 := Tryz.sizeOf320
  v218 := Tryz.zeroValue320
  t222 := Tryz.underlying324
  a222 := Tryz.isAgg324
  z222 := Tryz.sizeOf324
  v222 := Tryz.zeroValue324
  t228 := Tryz.underlying329
  a228 := Tryz.isAgg329
  z228 := Tryz.sizeOf329
  v228 := Tryz.zeroValue329
  t229 := Tryz.underlying202
  a229 := Tryz.isAgg202
  z229 := Tryz.sizeOf202
  v229 := Tryz.zeroValue202 }
end Go.Proofs

/- A text of the proof: a verified executor of the program form, or the contracts of the functions that the law reaches. -/
import Derived.Shelf.Small.Bits
import Derived.Shelf.Strconv.Itoa0
import Derived.Shelf.Strconv.Itoa1
import Derived.Shelf.LaysM
import Derived.Shelf.Strconv.Itoa2
import Derived.Shelf.Sort.Plain
import Derived.Shelf.GgClosure.StringsIndexFunc
import Derived.Ground.GgwProg
import Derived.Shelf.GgClosure.StringsIndexFuncTop
import Derived.Shelf.Strings.FuncGrows
import Derived.Shelf.Slices.Turned
import Derived.Ground.Names2Prog
import Derived.Shelf.Slices.SearchI
import Derived.Test.YtciaeohnkfnamaaDoorProg
set_option linter.all false
namespace Go.Proofs
open Go.Shelf
def Tryd.lays189_ren : Go.Shelf.Ren := ⟨fun | 189 => 90 | 125 => 113 | 257 => 112 | 128 => 147 | 129 => 148 | 294 => 138 | 295 => 139 | 296 => 140 | 297 => 141 | 298 => 142 | 299 => 143 | 216 => 144 | 300 => 145 | 301 => 146 | 328 => 162 | 329 => 163 | 330 => 164 | 331 => 165 | 332 => 166 | 215 => 167 | 343 => 175 | n => n, fun | 28 => 26 | 3 => 3 | 46 => 101 | 0 => 0 | 51 => 199 | 53 => 180 | 4 => 4 | 183 => 192 | 182 => 191 | 131 => 124 | 5 => 5 | 9 => 9 | 218 => 214 | 222 => 218 | 228 => 226 | 229 => 227 | n => n, fun | n => n⟩
theorem Tryd.lays189 : Go.Proofs.Lays.n189 Tryd.prog Tryd.lays189_ren := {
  mixed := by kernel_rfl
  f125 := Tryd.func113.trans (congrArg some (by kernel_rfl))
  f128 := Tryd.func147.trans (congrArg some (by kernel_rfl))
  f129 := Tryd.func148.trans (congrArg some (by kernel_rfl))
  f189 := Tryd.func90.trans (congrArg some (by kernel_rfl))
  f215 := Tryd.func167.trans (congrArg some (by kernel_rfl))
  f216 := Tryd.func144.trans (congrArg some (by kernel_rfl))
  f257 := Tryd.func112.trans (congrArg some (by kernel_rfl))
  f294 := Tryd.func138.trans (congrArg some (by kernel_rfl))
  f295 := Tryd.func139.trans (congrArg some (by kernel_rfl))
  f296 := Tryd.func140.trans (congrArg some (by kernel_rfl))
  f297 := Tryd.func141.trans (congrArg some (by kernel_rfl))
  f298 := Tryd.func142.trans (congrArg some (by kernel_rfl))
  f299 := Tryd.func143.trans (congrArg some (by kernel_rfl))
  f300 := Tryd.func145.trans (congrArg some (by kernel_rfl))
  f301 := Tryd.func146.trans (congrArg some (by kernel_rfl))
  f328 := Tryd.func162.trans (congrArg some (by kernel_rfl))
  f329 := Tryd.func163.trans (congrArg some (by kernel_rfl))
  f330 := Tryd.func164.trans (congrArg some (by kernel_rfl))
  f331 := Tryd.func165.trans (congrArg some (by kernel_rfl))
  f332 := Tryd.func166.trans (congrArg some (by kernel_rfl))
  f343 := Tryd.func175.trans (congrArg some (by kernel_rfl))
  t0 := Tryd.underlying0
  a0 := Tryd.isAgg0
  z0 := Tryd.sizeOf0
  v0 := Tryd.zeroValue0
  t3 := Tryd.underlying3
  a3 := Tryd.isAgg3
  z3 := Tryd.sizeOf3
  v3 := Tryd.zeroValue3
  t4 := Tryd.underlying4
  a4 := Tryd.isAgg4
  z4 := Tryd.sizeOf4
  v4 := Tryd.zeroValue4
  t5 := Tryd.underlying5
  a5 := Tryd.isAgg5
  z5 := Tryd.sizeOf5
  v5 := Tryd.zeroValue5
  t9 := Tryd.underlying9
  a9 := Tryd.isAgg9
  z9 := Tryd.sizeOf9
  v9 := Tryd.zeroValue9
  t28 := Tryd.underlying26
  a28 := Tryd.isAgg26
  z28 := Tryd.sizeOf26
  v28 := Tryd.zeroValue26
  t46 := Tryd.underlying101
  a46 := Tryd.isAgg101
  z46 := Tryd.sizeOf101
  v46 := Tryd.zeroValue101
  t51 := Tryd.underlying199
  a51 := Tryd.isAgg199
  z51 := Tryd.sizeOf199
  v51 := Tryd.zeroValue199
  t53 := Tryd.underlying180
  a53 := Tryd.isAgg180
  z53 := Tryd.sizeOf180
  v53 := Tryd.zeroValue180
  t131 := Tryd.underlying124
  a131 := Tryd.isAgg124
  z131 := Tryd.sizeOf124
  v131 := Tryd.zeroValue124
  t182 := Tryd.underlying191
  a182 := Tryd.isAgg191
  z182 := Tryd.sizeOf191
  v182 := Tryd.zeroValue191
  t183 := Tryd.underlying192
  a183 := Tryd.isAgg192
  z183 := Tryd.sizeOf192
  v183 := Tryd.zeroValue192
  t218 := Tryd.underlying214
  a218 := Tryd.isAgg214
  z218 := Tryd.sizeOf214
  v218 := Tryd.zeroValue214
  t222 := Tryd.underlying218
  a222 := Tryd.isAgg218
  z222 := Tryd.sizeOf218
  v222 := Tryd.zeroValue218
  t228 := Tryd.underlying226
  a228 := Tryd.isAgg226
  z228 := Tryd.sizeOf226
  v228 := Tryd.zeroValue226
  t229 := Tryd.underlying227
  a229 := Tryd.isAgg227
  z229 := Tryd.sizeOf227
  v229 := Tryd.zeroValue227 }
end Go.Proofs

/- A text of the proof: a verified executor of the program form, or the contracts of the functions that the law reaches. -/
import Derived.Shelf.Small.Bits
import Derived.Shelf.Strconv.Itoa0
import Derived.Shelf.Sort.Plain
import Derived.Shelf.GgClosure.StringsIndexFunc
import Derived.Ground.GgwProg
import Derived.Shelf.GgClosure.StringsIndexFuncTop
import Derived.Shelf.Strings.FuncGrows
import Derived.Shelf.Slices.Turned
import Derived.Ground.Names2Prog
import Derived.Shelf.Slices.SearchI
import Derived.Test.YthdiljjohpamnaaGreatDoorRRProg
set_option linter.all false
namespace Go.Proofs
open Go.Shelf
def Tryz.lays189_ren : Go.Shelf.Ren := ⟨fun | 189 => 126 | 125 => 172 | 257 => 171 | 128 => 212 | 129 => 213 | 294 => 203 | 295 => 204 | 296 => 205 | 297 => 206 | 298 => 207 | 299 => 208 | 216 => 209 | 300 => 210 | 301 => 211 | 328 => 218 | 329 => 219 | 330 => 220 | 331 => 221 | 332 => 222 | 215 => 223 | 343 => 227 | n => n, fun | 28 => 28 | 3 => 3 | 46 => 126 | 0 => 0 | 51 => 242 | 53 => 244 | 4 => 4 | 183 => 235 | 182 => 234 | 131 => 113 | 5 => 5 | 9 => 9 | 218 => 253 | 222 => 257 | 228 => 262 | 229 => 148 | n => n, fun | n => n⟩
theorem Tryz.lays189 : Go.Proofs.Lays.n189 Tryz.prog Tryz.lays189_ren := {
  mixed := by kernel_rfl
  f125 := Tryz.func172.trans (congrArg some (by kernel_rfl))
  f128 := Tryz.func212.trans (congrArg some (by kernel_rfl))
  f129 := Tryz.func213.trans (congrArg some (by kernel_rfl))
  f189 := Tryz.func126.trans (congrArg some (by kernel_rfl))
  f215 := Tryz.func223.trans (congrArg some (by kernel_rfl))
  f216 := Tryz.func209.trans (congrArg some (by kernel_rfl))
  f257 := Tryz.func171.trans (congrArg some (by kernel_rfl))
  f294 := Tryz.func203.trans (congrArg some (by kernel_rfl))
  f295 := Tryz.func204.trans (congrArg some (by kernel_rfl))
  f296 := Tryz.func205.trans (congrArg some (by kernel_rfl))
  f297 := Tryz.func206.trans (congrArg some (by kernel_rfl))
  f298 := Tryz.func207.trans (congrArg some (by kernel_rfl))
  f299 := Tryz.func208.trans (congrArg some (by kernel_rfl))
  f300 := Tryz.func210.trans (congrArg some (by kernel_rfl))
  f301 := Tryz.func211.trans (congrArg some (by kernel_rfl))
  f328 := Tryz.func218.trans (congrArg some (by kernel_rfl))
  f329 := Tryz.func219.trans (congrArg some (by kernel_rfl))
  f330 := Tryz.func220.trans (congrArg some (by kernel_rfl))
  f331 := Tryz.func221.trans (congrArg some (by kernel_rfl))
  f332 := Tryz.func222.trans (congrArg some (by kernel_rfl))
  f343 := Tryz.func227.trans (congrArg some (by kernel_rfl))
  t0 := Tryz.underlying0
  a0 := Tryz.isAgg0
  z0 := Tryz.sizeOf0
  v0 := Tryz.zeroValue0
  t3 := Tryz.underlying3
  a3 := Tryz.isAgg3
  z3 := Tryz.sizeOf3
  v3 := Tryz.zeroValue3
  t4 := Tryz.underlying4
  a4 := Tryz.isAgg4
  z4 := Tryz.sizeOf4
  v4 := Tryz.zeroValue4
  t5 := Tryz.underlying5
  a5 := Tryz.isAgg5
  z5 := Tryz.sizeOf5
  v5 := Tryz.zeroValue5
  t9 := Tryz.underlying9
  a9 := Tryz.isAgg9
  z9 := Tryz.sizeOf9
  v9 := Tryz.zeroValue9
  t28 := Tryz.underlying28
  a28 := Tryz.isAgg28
  z28 := Tryz.sizeOf28
  v28 := Tryz.zeroValue28
  t46 := Tryz.underlying126
  a46 := Tryz.isAgg126
  z46 := Tryz.sizeOf126
  v46 := Tryz.zeroValue126
  t51 := Tryz.underlying242
  a51 := Tryz.isAgg242
  z51 := Tryz.sizeOf242
  v51 := Tryz.zeroValue242
  t53 := Tryz.underlying244
  a53 := Tryz.isAgg244
  z53 := Tryz.sizeOf244
  v53 := Tryz.zeroValue244
  t131 := Tryz.underlying113
  a131 := Tryz.isAgg113
  z131 := Tryz.sizeOf113
  v131 := Tryz.zeroValue113
  t182 := Tryz.underlying234
  a182 := Tryz.isAgg234
  z182 := Tryz.sizeOf234
  v182 := Tryz.zeroValue234
  t183 := Tryz.underlying235
  a183 := Tryz.isAgg235
  z183 := Tryz.sizeOf235
  v183 := Tryz.zeroValue235
  t218 := Tryz.underlying253
  a218 := Tryz.isAgg253
  z218 := Tryz.sizeOf253
  v218 := Tryz.zeroValue253
  t222 := Tryz.underlying257
  a222 := Tryz.isAgg257
  z222 := Tryz.sizeOf257
  v222 := Tryz.zeroValue257
  t228 := Tryz.underlying262
  a228 := Tryz.isAgg262
  z228 := Tryz.sizeOf262
  v228 := Tryz.zeroValue262
  t229 := Tryz.underlying148
  a229 := Tryz.isAgg148
  z229 := Tryz.sizeOf148
  v229 := Tryz.zeroValue148 }
end Go.Proofs

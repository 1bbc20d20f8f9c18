/- A text of the proof: a verified executor of the program form, or the contracts of the functions that the law reaches. -/
import Derived.Shelf.Small.Bits
import Derived.Shelf.Strconv.Itoa0
import Derived.Shelf.Sort.Plain
import Derived.Shelf.Bits.Mul64
import Derived.Shelf.Slices.Equal
import Derived.Ground.Names2Prog
import Derived.Shelf.Slices.Clone
import Derived.Shelf.Slices.SearchI
import Derived.Shelf.Slices.In.SortNone
import Derived.Shelf.Slices.Empties2
import Derived.Ground.SlgnProg
import Derived.Shelf.SlicesE.Clone
import Derived.Test.YtgohgnaapbpggaaGreatDoorProg
set_option linter.all false
namespace Go.Proofs
open Go.Shelf
def Tryz.lays189_ren:Go.Shelf.Ren:=⟨fun |189=>66 |125=>99 |257=>98 |128=>126 |129=>127 |294=>117 |295=>118 |296=>119 |297=>120 |298=>121 |299=>122 |216=>123 |300=>124 |301=>125 |328=>132 |329=>133 |330=>134 |331=>135 |332=>136 |215=>137 |343=>140 |n=>n,fun |28=>56 |3=>3 |46=>131 |0=>0 |51=>158 |53=>166 |4=>4 |183=>172 |182=>171 |131=>51 |5=>5 |9=>9 |218=>184 |222=>188 |228=>192 |229=>193 |n=>n,fun |n=>n⟩
theorem Tryz.lays189:Go.Proofs.Lays.n189 Tryz.prog Tryz.lays189_ren:={
  mixed:=by kernel_rfl
  f125:=Tryz.func99.trans (congrArg some (by kernel_rfl))
  f128:=Tryz.func126.trans (congrArg some (by kernel_rfl))
  f129:=Tryz.func127.trans (congrArg some (by kernel_rfl))
  f189:=Tryz.func66.trans (congrArg some (by kernel_rfl))
  f215:=Tryz.func137.trans (congrArg some (by kernel_rfl))
  f216:=Tryz.func123.trans (congrArg some (by kernel_rfl))
  f257:=Tryz.func98.trans (congrArg some (by kernel_rfl))
  f294:=Tryz.func117.trans (congrArg some (by kernel_rfl))
  f295:=Tryz.func118.trans (congrArg some (by kernel_rfl))
  f296:=Tryz.func119.trans (congrArg some (by kernel_rfl))
  f297:=Tryz.func120.trans (congrArg some (by kernel_rfl))
  f298:=Tryz.func121.trans (congrArg some (by kernel_rfl))
  f299:=Tryz.func122.trans (congrArg some (by kernel_rfl))
  f300:=Tryz.func124.trans (congrArg some (by kernel_rfl))
  f301:=Tryz.func125.trans (congrArg some (by kernel_rfl))
  f328:=Tryz.func132.trans (congrArg some (by kernel_rfl))
  f329:=Tryz.func133.trans (congrArg some (by kernel_rfl))
  f330:=Tryz.func134.trans (congrArg some (by kernel_rfl))
  f331:=Tryz.func135.trans (congrArg some (by kernel_rfl))
  f332:=Tryz.func136.trans (congrArg some (by kernel_rfl))
  f343:=Tryz.func140.trans (congrArg some (by kernel_rfl))
  t0:=Tryz.underlying0
  a0:=Tryz.isAgg0
  z0:=Tryz.sizeOf0
  v0:=Tryz.zeroValue0
  t3:=Tryz.underlying3
  a3:=Tryz.isAgg3
  z3:=Tryz.sizeOf3
  v3:=Tryz.zeroValue3
  t4:=Tryz.underlying4
  a4:=Tryz.isAgg4
  z4:=Tryz.sizeOf4
  v4:=Tryz.zeroValue4
  t5:=Tryz.underlying5
  a5:=Tryz.isAgg5
  z5:=Tryz.sizeOf5
  v5:=Tryz.zeroValue5
  t9:=Tryz.underlying9
  a9:=Tryz.isAgg9
  z9:=Tryz.sizeOf9
  v9:=Tryz.zeroValue9
  t28:=Tryz.underlying56
  a28:=Tryz.isAgg56
  z28:=Tryz.sizeOf56
  v28:=Tryz.zeroValue56
  t46:=Tryz.underlying131
  a46:=Tryz.isAgg131
  z46:=Tryz.sizeOf131
  v46:=Tryz.zeroValue131
  t51:=Tryz.underlying158
  a51:=Tryz.isAgg158
  z51:=Tryz.sizeOf158
  v51:=Tryz.zeroValue158
  t53:=Tryz.underlying166
  a53:=Tryz.isAgg166
  z53:=Tryz.sizeOf166
  v53:=Tryz.zeroValue166
  t131:=Tryz.underlying51
  a131:=Tryz.isAgg51
  z131:=Tryz.sizeOf51
  v131:=Tryz.zeroValue51
  t182:=Tryz.underlying171
  a182:=Tryz.isAgg171
  z182:=Tryz.sizeOf171
  v182:=Tryz.zeroValue171
  t183:=Tryz.underlying172
  a183:=Tryz.isAgg172
  z183:=Tryz.sizeOf172
  v183:=Tryz.zeroValue172
  t218:=Tryz.underlying184
  a218:=Tryz.isAgg184
  z218:=Tryz.sizeOf184
  v218:=Tryz.zeroValue184
  t222:=Tryz.underlying188
  a222:=Tryz.isAgg188
  z222:=Tryz.sizeOf188
  v222:=Tryz.zeroValue188
  t228:=Tryz.underlying192
  a228:=Tryz.isAgg192
  z228:=Tryz.sizeOf192
  v228:=Tryz.zeroValue192
  t229:=Tryz.underlying193
  a229:=Tryz.isAgg193
  z229:=Tryz.sizeOf193
  v229:=Tryz.zeroValue193}
end Go.Proofs

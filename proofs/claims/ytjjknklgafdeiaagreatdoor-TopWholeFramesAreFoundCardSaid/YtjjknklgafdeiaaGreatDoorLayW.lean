/- A text of the proof: a verified executor of the program form, or the contracts of the functions that the law reaches. -/
import Derived.Shelf.Small.Bits
import Derived.Shelf.Strconv.Itoa0
import Derived.Shelf.Sort.Plain
import Derived.Ground.Names2Prog
import Derived.Shelf.Slices.SearchI
import Derived.Shelf.Slices.In.SortNone
import Derived.Test.YtjjknklgafdeiaaGreatDoorProg
set_option linter.all false
namespace Go.Proofs
open Go.Shelf
def Tryz.lays189_ren:Go.Shelf.Ren:=⟨fun |189=>47 |125=>73 |257=>72 |128=>109 |129=>110 |294=>100 |295=>101 |296=>102 |297=>103 |298=>104 |299=>105 |216=>106 |300=>107 |301=>108 |328=>117 |329=>118 |330=>119 |331=>120 |332=>121 |215=>122 |343=>130 |n=>n,fun |28=>23 |3=>3 |46=>78 |0=>0 |51=>154 |53=>156 |4=>4 |183=>147 |182=>146 |131=>48 |5=>5 |9=>9 |218=>164 |222=>168 |228=>175 |229=>176 |n=>n,fun |n=>n⟩
theorem Tryz.lays189:Go.Proofs.Lays.n189 Tryz.prog Tryz.lays189_ren:={
  mixed:=by kernel_rfl
  f125:=Tryz.func73.trans (congrArg some (by kernel_rfl))
  f128:=Tryz.func109.trans (congrArg some (by kernel_rfl))
  f129:=Tryz.func110.trans (congrArg some (by kernel_rfl))
  f189:=Tryz.func47.trans (congrArg some (by kernel_rfl))
  f215:=Tryz.func122.trans (congrArg some (by kernel_rfl))
  f216:=Tryz.func106.trans (congrArg some (by kernel_rfl))
  f257:=Tryz.func72.trans (congrArg some (by kernel_rfl))
  f294:=Tryz.func100.trans (congrArg some (by kernel_rfl))
  f295:=Tryz.func101.trans (congrArg some (by kernel_rfl))
  f296:=Tryz.func102.trans (congrArg some (by kernel_rfl))
  f297:=Tryz.func103.trans (congrArg some (by kernel_rfl))
  f298:=Tryz.func104.trans (congrArg some (by kernel_rfl))
  f299:=Tryz.func105.trans (congrArg some (by kernel_rfl))
  f300:=Tryz.func107.trans (congrArg some (by kernel_rfl))
  f301:=Tryz.func108.trans (congrArg some (by kernel_rfl))
  f328:=Tryz.func117.trans (congrArg some (by kernel_rfl))
  f329:=Tryz.func118.trans (congrArg some (by kernel_rfl))
  f330:=Tryz.func119.trans (congrArg some (by kernel_rfl))
  f331:=Tryz.func120.trans (congrArg some (by kernel_rfl))
  f332:=Tryz.func121.trans (congrArg some (by kernel_rfl))
  f343:=Tryz.func130.trans (congrArg some (by kernel_rfl))
  t0:=Tryz.underlying0
  a0:=Tryz.isAgg0
  z0:=Tryz.sizeOf0
  v0:=Tryz.zeroValue0
  t3:=Tryz.underlying3
  a3:=Tryz.isAgg3
  z3:=Tryz.sizeOf3
  v3:=Tryz.zeroValue3
  t4:=Tryz.underlying4
  a4:=Tryz.isAgg4
  z4:=Tryz.sizeOf4
  v4:=Tryz.zeroValue4
  t5:=Tryz.underlying5
  a5:=Tryz.isAgg5
  z5:=Tryz.sizeOf5
  v5:=Tryz.zeroValue5
  t9:=Tryz.underlying9
  a9:=Tryz.isAgg9
  z9:=Tryz.sizeOf9
  v9:=Tryz.zeroValue9
  t28:=Tryz.underlying23
  a28:=Tryz.isAgg23
  z28:=Tryz.sizeOf23
  v28:=Tryz.zeroValue23
  t46:=Tryz.underlying78
  a46:=Tryz.isAgg78
  z46:=Tryz.sizeOf78
  v46:=Tryz.zeroValue78
  t51:=Tryz.underlying154
  a51:=Tryz.isAgg154
  z51:=Tryz.sizeOf154
  v51:=Tryz.zeroValue154
  t53:=Tryz.underlying156
  a53:=Tryz.isAgg156
  z53:=Tryz.sizeOf156
  v53:=Tryz.zeroValue156
  t131:=Tryz.underlying48
  a131:=Tryz.isAgg48
  z131:=Tryz.sizeOf48
  v131:=Tryz.zeroValue48
  t182:=Tryz.underlying146
  a182:=Tryz.isAgg146
  z182:=Tryz.sizeOf146
  v182:=Tryz.zeroValue146
  t183:=Tryz.underlying147
  a183:=Tryz.isAgg147
  z183:=Tryz.sizeOf147
  v183:=Tryz.zeroValue147
  t218:=Tryz.underlying164
  a218:=Tryz.isAgg164
  z218:=Tryz.sizeOf164
  v218:=Tryz.zeroValue164
  t222:=Tryz.underlying168
  a222:=Tryz.isAgg168
  z222:=Tryz.sizeOf168
  v222:=Tryz.zeroValue168
  t228:=Tryz.underlying175
  a228:=Tryz.isAgg175
  z228:=Tryz.sizeOf175
  v228:=Tryz.zeroValue175
  t229:=Tryz.underlying176
  a229:=Tryz.isAgg176
  z229:=Tryz.sizeOf176
  v229:=Tryz.zeroValue176}
end Go.Proofs

/- A text of the proof: a verified executor of the program form, or the contracts of the functions that the law reaches. -/
import Derived.Shelf.Strings.Builder1
import Derived.Shelf.Strings.Builder2
import Derived.Shelf.Strings.OnBuilder
import Derived.Shelf.Strings.Trim
import Derived.Shelf.Small.Utf8
import Derived.Shelf.Small.Strs
import Derived.Shelf.Strings.BuilderF
import Derived.Shelf.Strings.BuilderK
import Derived.Shelf.Strings.Builder2Cap
import Derived.Shelf.Strconv.Itoa0
import Derived.Shelf.Strconv.Itoa1
import Derived.Shelf.LaysM
import Derived.Shelf.Strconv.Itoa2
import Derived.Shelf.Strconv.Itoa3
import Derived.Shelf.Strings.Search1
import Derived.Shelf.Unicode.Decode
import Derived.Shelf.Strings.Runes
import Derived.Shelf.Strings.AsciiSet
import Derived.Shelf.Unicode.DecodeSlow
import Derived.Shelf.Unicode.DecodeAny
import Derived.Shelf.Unicode.DecodeLast
import Derived.Shelf.Slices.Turned
import Derived.Shelf.Slices.Equal
import Derived.Ground.Names2Prog
import Derived.Shelf.Slices.Clone
import Derived.Shelf.Slices.Empties2
import Derived.Ground.SlgnProg
import Derived.Shelf.SlicesE.Clone
import Derived.Test.YtailpehcgelmdaaGreatDoorProg
set_option linter.all false
namespace Go.Proofs
open Go.Shelf
def Tryz.lays156_ren:Go.Shelf.Ren:=⟨fun |156=>124 |165=>153 |166=>59 |169=>60 |240=>102 |241=>168 |276=>144 |277=>186 |n=>n,fun |31=>171 |9=>9 |3=>3 |4=>4 |0=>0 |20=>20 |72=>110 |76=>113 |70=>107 |37=>108 |75=>112 |127=>154 |164=>178 |5=>5 |80=>115 |n=>n,fun |n=>n⟩
theorem Tryz.lays156:Go.Proofs.Lays.n156 Tryz.prog Tryz.lays156_ren:={
  mixed:=by kernel_rfl
  f156:=Tryz.func124.trans (congrArg some (by kernel_rfl))
  f165:=Tryz.func153.trans (congrArg some (by kernel_rfl))
  f166:=Tryz.func59.trans (congrArg some (by kernel_rfl))
  f169:=Tryz.func60.trans (congrArg some (by kernel_rfl))
  f240:=Tryz.func102.trans (congrArg some (by kernel_rfl))
  f241:=Tryz.func168.trans (congrArg some (by kernel_rfl))
  f276:=Tryz.func144.trans (congrArg some (by kernel_rfl))
  f277:=Tryz.func186.trans (congrArg some (by kernel_rfl))
  t0:=Tryz.underlying0
  a0:=Tryz.isAgg0
  z0:=Tryz.sizeOf0
  v0:=Tryz.zeroValue0
  t3:=Tryz.underlying3
  a3:=Tryz.isAgg3
  z3:=Tryz.sizeOf3
  v3:=Tryz.zeroValue3
  t4:=Tryz.underlying4
  a4:=Tryz.isAgg4
  z4:=Tryz.sizeOf4
  v4:=Tryz.zeroValue4
  t9:=Tryz.underlying9
  a9:=Tryz.isAgg9
  z9:=Tryz.sizeOf9
  v9:=Tryz.zeroValue9
  t20:=Tryz.underlying20
  a20:=Tryz.isAgg20
  z20:=Tryz.sizeOf20
  v20:=Tryz.zeroValue20
  t31:=Tryz.underlying171
  a31:=Tryz.isAgg171
  z31:=Tryz.sizeOf171
  v31:=Tryz.zeroValue171
  t37:=Tryz.underlying108
  a37:=Tryz.isAgg108
  z37:=Tryz.sizeOf108
  v37:=Tryz.zeroValue108
  t70:=Tryz.underlying107
  a70:=Tryz.isAgg107
  z70:=Tryz.sizeOf107
  v70:=Tryz.zeroValue107
  t72:=Tryz.underlying110
  a72:=Tryz.isAgg110
  z72:=Tryz.sizeOf110
  v72:=Tryz.zeroValue110
  t75:=Tryz.underlying112
  a75:=Tryz.isAgg112
  z75:=Tryz.sizeOf112
  v75:=Tryz.zeroValue112
  t76:=Tryz.underlying113
  a76:=Tryz.isAgg113
  z76:=Tryz.sizeOf113
  v76:=Tryz.zeroValue113
  t127:=Tryz.underlying154
  a127:=Tryz.isAgg154
  z127:=Tryz.sizeOf154
  v127:=Tryz.zeroValue154
  t164:=Tryz.underlying178
  a164:=Tryz.isAgg178
  z164:=Tryz.sizeOf178
  v164:=Tryz.zeroValue178}
theorem Tryz.Builder_Extra_156:Builder.Extra Tryz.prog Tryz.lays156_ren:={
  sizeBuilder:=by kernel_rfl
  liesBuilder:=by kernel_rfl
  t5:=Tryz.underlying5
  a5:=Tryz.isAgg5
  z5:=Tryz.sizeOf5
  v5:=Tryz.zeroValue5
  infoByte:=by kernel_rfl
  cellsByte:=by kernel_rfl
  sizeByte:=by kernel_rfl
  neB5:=by decide}
def Tryz.laysM171_ren:Go.Shelf.Ren:=⟨fun |171=>90 |243=>125 |246=>154 |283=>169 |284=>170 |285=>171 |286=>172 |129=>188 |317=>187 |318=>189 |319=>190 |320=>191 |337=>197 |338=>198 |n=>n,fun |3=>3 |9=>9 |2=>2 |4=>4 |171=>193 |0=>0 |53=>194 |37=>108 |5=>5 |173=>197 |212=>214 |51=>215 |20=>20 |213=>216 |46=>126 |232=>223 |233=>224 |n=>n,fun |17=>1 |18=>3 |19=>4 |n=>n⟩
theorem Tryz.laysM171:Go.Proofs.LaysM.n171 Tryz.prog Tryz.laysM171_ren:={
  mixed:=by kernel_rfl
  f129:=Tryz.func188.trans (congrArg some (by kernel_rfl))
  f171:=Tryz.func90.trans (congrArg some (by kernel_rfl))
  f243:=Tryz.func125.trans (congrArg some (by kernel_rfl))
  f246:=Tryz.func154.trans (congrArg some (by kernel_rfl))
  f283:=Tryz.func169.trans (congrArg some (by kernel_rfl))
  f284:=Tryz.func170.trans (congrArg some (by kernel_rfl))
  f285:=Tryz.func171.trans (congrArg some (by kernel_rfl))
  f286:=Tryz.func172.trans (congrArg some (by kernel_rfl))
  f317:=Tryz.func187.trans (congrArg some (by kernel_rfl))
  f318:=Tryz.func189.trans (congrArg some (by kernel_rfl))
  f319:=Tryz.func190.trans (congrArg some (by kernel_rfl))
  f320:=Tryz.func191.trans (congrArg some (by kernel_rfl))
  f337:=Tryz.func197.trans (congrArg some (by kernel_rfl))
  f338:=Tryz.func198.trans (congrArg some (by kernel_rfl))
  t0:=Tryz.underlying0
  a0:=Tryz.isAgg0
  z0:=Tryz.sizeOf0
  v0:=Tryz.zeroValue0
  t2:=Tryz.underlying2
  a2:=Tryz.isAgg2
  z2:=Tryz.sizeOf2
  v2:=Tryz.zeroValue2
  t3:=Tryz.underlying3
  a3:=Tryz.isAgg3
  z3:=Tryz.sizeOf3
  v3:=Tryz.zeroValue3
  t4:=Tryz.underlying4
  a4:=Tryz.isAgg4
  z4:=Tryz.sizeOf4
  v4:=Tryz.zeroValue4
  t5:=Tryz.underlying5
  a5:=Tryz.isAgg5
  z5:=Tryz.sizeOf5
  v5:=Tryz.zeroValue5
  t9:=Tryz.underlying9
  a9:=Tryz.isAgg9
  z9:=Tryz.sizeOf9
  v9:=Tryz.zeroValue9
  t20:=Tryz.underlying20
  a20:=Tryz.isAgg20
  z20:=Tryz.sizeOf20
  v20:=Tryz.zeroValue20
  t37:=Tryz.underlying108
  a37:=Tryz.isAgg108
  z37:=Tryz.sizeOf108
  v37:=Tryz.zeroValue108
  t46:=Tryz.underlying126
  a46:=Tryz.isAgg126
  z46:=Tryz.sizeOf126
  v46:=Tryz.zeroValue126
  t51:=Tryz.underlying215
  a51:=Tryz.isAgg215
  z51:=Tryz.sizeOf215
  v51:=Tryz.zeroValue215
  t53:=Tryz.underlying194
  a53:=Tryz.isAgg194
  z53:=Tryz.sizeOf194
  v53:=Tryz.zeroValue194
  t171:=Tryz.underlying193
  a171:=Tryz.isAgg193
  z171:=Tryz.sizeOf193
  v171:=Tryz.zeroValue193
  t173:=Tryz.underlying197
  a173:=Tryz.isAgg197
  z173:=Tryz.sizeOf197
  v173:=Tryz.zeroValue197
  t212:=Tryz.underlying214
  a212:=Tryz.isAgg214
  z212:=Tryz.sizeOf214
  v212:=Tryz.zeroValue214
  t213:=Tryz.underlying216
  a213:=Tryz.isAgg216
  z213:=Tryz.sizeOf216
  t232:=Tryz.underlying223
  a232:=Tryz.isAgg223
  z232:=Tryz.sizeOf223
  v232:=Tryz.zeroValue223
  t233:=Tryz.underlying224
  a233:=Tryz.isAgg224
  z233:=Tryz.sizeOf224
  v233:=Tryz.zeroValue224
  g17:=by kernel_rfl
  g18:=by kernel_rfl
  g19:=by kernel_rfl
  i0:=by kernel_rfl
  i2:=by kernel_rfl
  i3:=by kernel_rfl
  i4:=by kernel_rfl
  i5:=by kernel_rfl
  i9:=by kernel_rfl
  i20:=by kernel_rfl
  i37:=by kernel_rfl
  i46:=by kernel_rfl
  i51:=by kernel_rfl
  i53:=by kernel_rfl
  i171:=by kernel_rfl
  i173:=by kernel_rfl
  i212:=by kernel_rfl
  i232:=by kernel_rfl
  i233:=by kernel_rfl
  m17:=by kernel_rfl
  m18:=by kernel_rfl
  m19:=by kernel_rfl}
end Go.Proofs

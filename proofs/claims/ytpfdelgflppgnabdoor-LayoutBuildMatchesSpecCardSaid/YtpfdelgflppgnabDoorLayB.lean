/- A text of the proof: a verified executor of the program form, or the contracts of the functions that the law reaches. -/
import Derived.Shelf.GgClosure.StringsIndexFunc
import Derived.Ground.GgwProg
import Derived.Shelf.GgClosure.StringsIndexFuncTop
import Derived.Shelf.Strings.FuncGrows
import Derived.Shelf.Slices.Turned
import Derived.Test.YtpfdelgflppgnabDoorProg
set_option linter.all false
namespace Go.Proofs
open Go.Shelf
def Tryd.laysGw17_ren : Go.Shelf.Ren := ⟨fun | 17 => 82 | 15 => 87 | 20 => 90 | n => n, fun | 9 => 9 | 23 => 111 | 4 => 4 | 3 => 3 | 0 => 0 | 21 => 21 | n => n, fun | n => n⟩
theorem Tryd.laysGw17 : Go.Proofs.LaysGw.n17 Tryd.prog Tryd.laysGw17_ren := {
  mixed := by kernel_rfl
  f15 := Tryd.func87.trans (congrArg some (by kernel_rfl))
  f17 := Tryd.func82.trans (congrArg some (by kernel_rfl))
  f20 := Tryd.func90.trans (congrArg some (by kernel_rfl))
  t0 := Tryd.underlying0
  a0 := Tryd.isAgg0
  z0 := Tryd.sizeOf0
  v0 := Tryd.zeroValue0
  i0 := by kernel_rfl
  t3 := Tryd.underlying3
  a3 := Tryd.isAgg3
  z3 := Tryd.sizeOf3
  v3 := Tryd.zeroValue3
  i3 := by kernel_rfl
  t4 := Tryd.underlying4
  a4 := Tryd.isAgg4
  z4 := Tryd.sizeOf4
  v4 := Tryd.zeroValue4
  i4 := by kernel_rfl
  t9 := Tryd.underlying9
  a9 := Tryd.isAgg9
  z9 := Tryd.sizeOf9
  v9 := Tryd.zeroValue9
  i9 := by kernel_rfl
  t21 := Tryd.underlying21
  a21 := Tryd.isAgg21
  z21 := Tryd.sizeOf21
  v21 := Tryd.zeroValue21
  i21 := by kernel_rfl
  t23 := Tryd.underlying111
  a23 := Tryd.isAgg111
  z23 := Tryd.sizeOf111
  v23 := Tryd.zeroValue111
  i23 := by kernel_rfl }
end Go.Proofs

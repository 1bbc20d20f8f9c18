/- A text of the proof: a verified executor of the program form, or the contracts of the functions that the law reaches. -/
import Derived.Test.YtgohgnaapbpggaaGreatDoorVD
import Derived.Lib.AppendStr
set_option linter.all false
namespace Go.Vx
open Go Go.RowKit Go.Lib
def bytes(s:Str):List Int:=s.map fun b=>(b.toNat:Int)
def ZaE(l:List Int):Str:=l.map fun z=>UInt8.ofNat z.toNat
section ops
variable {c:Ctx} {ops:Array Oper} {st:St} {dst:Option Tmp} {ty:TypeId} {pos:String} {after:Array Edge}
end ops
end Go.Vx

/- A text of the proof: a verified executor of the program form, or the contracts of the functions that the law reaches. -/
import Derived.Test.YtieneanhpdhfiaaDoorVL
import Derived.Lib.Join
set_option linter.all false
namespace Go.Vx
open Go Go.RowKit Go.Lib
end Go.Vx

namespace Go.Vx
open Go Go.RowKit
section ops
variable {c : Ctx} {ops : Array Oper} {st : St} {dst : Option Tmp} {ty : TypeId} {pos : String} {after : Array Edge}
end ops
end Go.Vx

/- A text of the proof: a verified executor of the program form, or the contracts of the functions that the law reaches. -/
import Derived.Test.YtieneanhpdhfiaaDoorVQ
import Derived.Laws.CopyOwn
import Derived.Laws.IdiomCopy
set_option linter.all false
namespace Go.Vx
open Go Go.RowKit
section ops
variable {c : Ctx} {ops : Array Oper} {st : St} {dst : Option Tmp} {ty : TypeId} {pos : String} {after : Array Edge}
end ops
end Go.Vx

namespace Go.Vx
open Go Go.RowKit
section
variable {c : Ctx} {ops : Array Oper} {st : St} {dst : Option Tmp} {ty : TypeId} {pos : String} {after : Array Edge}
end
end Go.Vx

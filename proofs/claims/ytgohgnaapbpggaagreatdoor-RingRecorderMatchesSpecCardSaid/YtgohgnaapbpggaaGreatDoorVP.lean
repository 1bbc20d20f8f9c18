/- A text of the proof: a verified executor of the program form, or the contracts of the functions that the law reaches. -/
import Derived.Test.YtgohgnaapbpggaaGreatDoorVO
import Derived.RangeFuncLeaves
import Derived.RangeFuncRecord
import Derived.RangeFuncSeq
set_option linter.all false
namespace Go.Vx
open Go Go.RowKit
section
variable {ro:Option Nat} {c:Ctx} {ops:Array Oper} {o:Oper} {rest:List Oper} {st:St} {K:Exit→St→Prop}
def notDefer:Op→Bool
  | .defer _=>false
  |_=>true
theorem notDefer.spec{o:Oper}(h:notDefer o.op=true): ∀ c,o.op≠ .defer c:=fun c e=>by rw [e] at h;cases h
end
theorem YieldAt.mono{F:Fence}{m:Nat}{P:Program}{l:Nat}{args:Array Value}{W:World}{R R':Ending→World→Prop}(h:YieldAt F m P l args W R)(hr: ∀ e w',R e w'→R' e w'):YieldAt F m P l args W R':=
  let ⟨fn,tmps,assign,body,h1,h2⟩:=h;⟨fn,tmps,assign,body,h1,h2.mono hr⟩
section
variable {c:Ctx} {ops:Array Oper} {st:St} {K:Exit→St→Prop} {dst:Option Tmp} {ty:TypeId} {pos:String} {after:Array Edge} {g:Option (Nat×Bool)} {rest:List Oper}
end
end Go.Vx

namespace Go.Vx
open Go Go.RowKit
end Go.Vx

namespace Go.Vx
open Go Go.RowKit
section
variable {c:Ctx} {ops:Array Oper} {st:St} {dst:Option Tmp} {ty:TypeId} {pos:String} {after:Array Edge}
end
end Go.Vx

namespace Go.Vx
open Go Go.RowKit
end Go.Vx

namespace Go.Vx
open Go Go.RowKit
section
variable {ro:Option Nat} {c:Ctx} {ops:Array Oper} {rest:List Oper} {st:St} {K:Exit→St→Prop} {dst:Option Tmp} {op:Op} {ty:TypeId} {pos:String} {after:Array Edge} {j d:Nat} {want b:Bool}
end
end Go.Vx

namespace Go.Vx
open Go Go.RowKit
section
variable {c:Ctx} {ops:Array Oper} {st:St} {dst:Option Tmp} {ty:TypeId} {pos:String} {after:Array Edge}
end
section
variable {α:Type} {e:TypeId} {R:α→List AV} {m:List (Int×List α)} {k:Int} {xs ys:List α} {fk:Int→AV}
end
end Go.Vx

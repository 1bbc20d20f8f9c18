/- A text of the proof: a verified executor of the program form, or the contracts of the functions that the law reaches. -/
import Derived.Test.YtgohgnaapbpggaaGreatDoorVE
import Derived.Lib.Itoa
import Derived.Shelf.Strconv.Itoa2
set_option linter.all false
namespace Go.Vx
open Go Go.RowKit
theorem Zhh{P:Program}{w:World}{M:Nat→Prop}{m:Nat}{φ:Phi}{r n j len:Nat}{v:Value}(h:RelF P w M m φ (.osl r n j len) v):
    (φ r).n=n→ ∃ b j' cap,(φ r).blk=some b∧len≤cap∧(0<len→j'=j)∧v= .slice (some ⟨b,j',none⟩) len cap:=by
  have:=h φ (fun _ _=>rfl)
  cases this with
  |data h=>cases h
  |osl _ _ _ _ _ _ _ h=>exact fun e=>(h e).2
theorem ZjS{P:Program}{w:World}{M:Nat→Prop}{m:Nat}{φ:Phi}{r n j len:Nat}{v:Value}(h:RelF P w M m φ (.osl r n j len) v):(φ r).n=n→(φ r).mp=false:=by
  have:=h φ (fun _ _=>rfl)
  cases this with
  |data h=>cases h
  |osl _ _ _ _ _ _ _ h=>exact fun e=>(h e).1
section ops
variable {c:Ctx} {ops:Array Oper} {st:St} {dst:Option Tmp} {ty:TypeId} {pos:String} {after:Array Edge}
end ops
end Go.Vx

namespace Go.Vx
open Go Go.RowKit Go.Lib Go.Sort
end Go.Vx

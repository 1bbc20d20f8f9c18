/- A text of the proof: a verified executor of the program form, or the contracts of the functions that the law reaches. -/
import Derived.Test.YtgohgnaapbpggaaGreatDoorVW
import Derived.Test.YtgohgnaapbpggaaGreatDoorVR
import Derived.Test.YtgohgnaapbpggaaGreatDoorVT
import Derived.Test.YtgohgnaapbpggaaGreatDoorVU
import Derived.Test.YtgohgnaapbpggaaGreatDoorVV
set_option linter.all false
namespace Go.Vx
open Go Go.RowKit
structure Fv (F:Type) where
  fn:F
  f:Nat
  c:List AV
abbrev ZfU{α:Type}(s:Nat)(xs:List α):Option (List α):=apz s [] xs
end Go.Vx

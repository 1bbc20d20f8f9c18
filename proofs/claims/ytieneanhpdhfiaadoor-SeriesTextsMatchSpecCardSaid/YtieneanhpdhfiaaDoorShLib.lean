/- A text of the proof: a verified executor of the program form, or the contracts of the functions that the law reaches. -/
import Derived.Test.YtieneanhpdhfiaaDoorVW
import Derived.Test.YtieneanhpdhfiaaDoorVS
import Derived.Test.YtieneanhpdhfiaaDoorVT
import Derived.Test.YtieneanhpdhfiaaDoorVU
import Derived.Test.YtieneanhpdhfiaaDoorVV
set_option linter.all false
namespace Go.Vx
open Go Go.RowKit
structure Fv (F : Type) where
  fn : F
  f : Nat
  c : List AV

end Go.Vx

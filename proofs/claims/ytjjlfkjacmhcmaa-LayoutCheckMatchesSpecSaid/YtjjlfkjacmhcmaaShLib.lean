/- A text of the proof: a verified executor of the program form, or the contracts of the functions that the law reaches. -/
import Derived.Test.YtjjlfkjacmhcmaaVS
import Derived.Test.YtjjlfkjacmhcmaaVT
import Derived.Test.YtjjlfkjacmhcmaaVU
import Derived.Test.YtjjlfkjacmhcmaaVV
set_option linter.all false
namespace Go.Vx
open Go Go.RowKit
structure Fv (F : Type) where
  fn : F
  f : Nat
  c : List AV

end Go.Vx

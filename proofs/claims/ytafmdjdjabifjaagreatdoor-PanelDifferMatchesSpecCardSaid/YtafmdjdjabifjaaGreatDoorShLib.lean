/- A text of the proof: a verified executor of the program form, or the contracts of the functions that the law reaches. -/
import Derived.Test.YtafmdjdjabifjaaGreatDoorVM
set_option linter.all false
namespace Go.Vx
open Go Go.RowKit
def clone {α : Type} (xs : List α) : Option (List α) := app [] xs

end Go.Vx

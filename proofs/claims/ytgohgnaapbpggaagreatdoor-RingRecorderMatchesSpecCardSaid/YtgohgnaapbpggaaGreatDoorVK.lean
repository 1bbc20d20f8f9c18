/- A text of the proof: a verified executor of the program form, or the contracts of the functions that the law reaches. -/
import Derived.Test.YtgohgnaapbpggaaGreatDoorVJ
import Derived.Shelf.Strconv.Itoa3
set_option linter.all false
namespace Go.Vx
open Go Go.RowKit Go.Lib Go.Sort
end Go.Vx

/- A text of the proof: a verified executor of the program form, or the contracts of the functions that the law reaches. -/
import Derived.Test.YtncoekfjpkfcdaaPuL14
set_option linter.all false
namespace Go.Vx
open Go Go.RowKit
def chunk (l : Vector (List Int) 16) (q : api_Place) : Nat := datN l q / 2 ^ q.Low.toNat % 2 ^ q.Bits.toNat
end Go.Vx

namespace Go.Vx
open Go Go.RowKit
end Go.Vx

/- A text of the proof: a verified executor of the program form, or the contracts of the functions that the law reaches. -/
import Derived.Test.YtncoekfjpkfcdaaPD
import Derived.Test.YtncoekfjpkfcdaaFuL4
set_option linter.all false
namespace Go.Vx
open Go Go.RowKit
theorem neq_s {x : Int} (h : x ≠ 0) : (!decide (x = 0)) = true := by simp [h]
end Go.Vx

namespace Go.Vx
open Go Go.RowKit
end Go.Vx

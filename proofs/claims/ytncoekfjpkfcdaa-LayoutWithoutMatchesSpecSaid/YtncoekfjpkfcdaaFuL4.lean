/- A text of the proof: a verified executor of the program form, or the contracts of the functions that the law reaches. -/
import Derived.Test.YtncoekfjpkfcdaaFuL3
set_option linter.all false
namespace Go.Vx
open Go Go.RowKit
theorem mapped_c : law2_mapped_c = some true := by decide +kernel
theorem mapped_s : law2_mapped = some true := le_law2_mapped true mapped_c
end Go.Vx

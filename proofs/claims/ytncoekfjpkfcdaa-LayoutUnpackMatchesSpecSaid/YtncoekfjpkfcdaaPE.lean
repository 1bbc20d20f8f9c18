/- A text of the proof: a verified executor of the program form, or the contracts of the functions that the law reaches. -/
import Derived.Test.YtncoekfjpkfcdaaPD
import Derived.Test.YtncoekfjpkfcdaaFuL4
set_option linter.all false
namespace Go.Vx
open Go Go.RowKit
theorem neq_s {x : Int} (h : x ≠ 0) : (!decide (x = 0)) = true := by simp [h]
theorem decoded_s {p : api_Param} (h : ParOK p) {raw : Int} (r0 : 0 ≤ raw) (r1 : raw < 2 * HH p) : layout_decoded p raw = some (dec p raw) := by
  obtain ⟨n, h1, h2⟩ := numberOf_s h
  obtain ⟨y, h3, h4⟩ := h2.decode raw r0 r1
  unfold layout_decoded
  rw [h1, Option.bind_some, h3, Option.bind_some, ← h4]
  obtain ⟨y1, y2⟩ := y
  cases y2 <;> rfl
end Go.Vx

namespace Go.Vx
open Go Go.RowKit
end Go.Vx

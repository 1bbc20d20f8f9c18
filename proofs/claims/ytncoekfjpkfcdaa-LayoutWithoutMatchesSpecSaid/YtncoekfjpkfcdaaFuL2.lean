/- A text of the proof: a verified executor of the program form, or the contracts of the functions that the law reaches. -/
import Derived.Test.YtncoekfjpkfcdaaFA
import Derived.Test.YtncoekfjpkfcdaaPB
set_option linter.all false
namespace Go.Vx
open Go Go.RowKit
def nmC (s : Str) : Option Bool := some (nmL s)
theorem le_nmC (s : Str) : Le (nmC s) (layout_isName s) := by rw [isName_s]; exact Le.refl _
noncomputable def numC (p : api_Param) : Option layout_number :=
  (layout_bitsOf_c p).bind fun y =>
  (shl .i64 1 (i64 (y - 1))).bind fun q => if p.Kind = 2 then layout_numberOf_6 q else none
theorem le_numC (p : api_Param) : Le (numC p) (layout_numberOf p) := by
  unfold numC layout_numberOf
  refine Le.bind (le_layout_bitsOf p) fun y => Le.bind (Le.refl _) fun q => ?_
  intro r hr
  split at hr
  · rename_i h
    have e : layout_numberOf_6 q = some r := hr
    rw [if_neg (by rw [h]; decide), if_neg (by rw [h]; decide), if_neg (by rw [h]; decide), if_pos (by rw [h]; decide), e]
    rfl
  · cases hr
end Go.Vx

/- A text of the proof: a verified executor of the program form, or the contracts of the functions that the law reaches. -/
import Derived.Test.YtncoekfjpkfcdaaFA
import Derived.Test.YtncoekfjpkfcdaaShT
set_option linter.all false
namespace Go.Vx
open Go Go.RowKit
set_option linter.unusedVariables false

noncomputable def ref1_odd_L1_c (n2 : Int) (ones2 : Int) : Option ((Int × Int) ⊕ (Int)) :=
  if (decide (0 < n2)) = true then
  (rem n2 2).bind fun q =>
  (quo .i64 n2 2).bind fun q2 =>
  some (.inl (q2, (i64 (ones2 + q))))
  else
  some (.inr ones2)
theorem le_ref1_odd_L1 (n2 : Int) (ones2 : Int) : Le (ref1_odd_L1_c n2 ones2) (ref1_odd_L1 n2 ones2) := by
  unfold ref1_odd_L1_c ref1_odd_L1
  repeat' (first | with_reducible exact Le.refl _ | with_reducible apply Le.bind | with_reducible apply Le.ite | with_reducible apply Le.gd | with_reducible apply Le.loop | with_reducible apply Le.t0 | with_reducible apply Le.t1 | with_reducible apply Le.t2 | with_reducible apply Le.t3 | with_reducible apply Le.t4 | with_reducible apply Le.t5 | with_reducible apply Le.t6 | with_reducible apply Le.t7 | with_reducible apply Le.t8 | with_reducible apply Le.elim | intro _)

noncomputable def ref1_odd_c (n : Int) : Option Bool :=
  ((cloop (t2 (ref1_odd_L1_c)) (n, 0)) : Option ((Int))).bind (t1 fun (ones : Int) =>
  (rem ones 2).bind fun q3 =>
  some (decide (q3 = 1)))
theorem le_ref1_odd (n : Int) : Le (ref1_odd_c n) (ref1_odd n) := by
  unfold ref1_odd_c ref1_odd
  repeat' (first | with_reducible exact Le.refl _ | with_reducible apply Le.bind | with_reducible apply Le.ite | with_reducible apply Le.gd | with_reducible apply Le.loop | with_reducible apply Le.t0 | with_reducible apply Le.t1 | with_reducible apply Le.t2 | with_reducible apply Le.t3 | with_reducible apply Le.t4 | with_reducible apply Le.t5 | with_reducible apply Le.t6 | with_reducible apply Le.t7 | with_reducible apply Le.t8 | with_reducible apply Le.elim | with_reducible apply le_ref1_odd_L1 | intro _)
end Go.Vx

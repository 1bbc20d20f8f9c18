/-
  DERIVED. GIVEN WITH THE SEED: THE PROGRAM's TIES (one call each: nine closed facts by the kernel) AND EACH ROW's TIE, after the 31st guide's Derived/Test/Toyas{Tie, Card}.lean. No idea stands in it: it is a product of the set-up. Laid BY PROGRAM, IN A SANDBOX (cutbox-door.mjs). By AI agents, Wed Nov 11 2026. No macro, syntax, notation, axiom, sorry.
-/
import Derived.Test.YtnlmjeleocelgaaGreatDoorRows
import Derived.LaidByTextLater
import Derived.SevenTiedAt
import Derived.LaidSub
import Derived.LaidOnce
namespace Go.Proofs.YtnlmjeleocelgaaGreatDoor
open Go
set_option maxRecDepth 100000
theorem seatTie1 : Tryz.prog.laidByTextLater [("orangebox/frame.syncs", Rows.laid_orangebox_frame_syncs)] [.data] true :=
  Program.laidByTextLater_by_one 14 8 5 (by kernel_rfl) (by kernel_rfl) (by kernel_rfl) (by kernel_rfl) (by kernel_rfl) (by kernel_rfl) (fun _ _ => by kernel_rfl)
theorem noOwnUnsafe : Tryz.pinned.checked.prog.headLifts.contains "ownunsafe" = false := by kernel_rfl
theorem tie : Tryz.prog.laidByTextLater [("orangebox/frame.syncs", Rows.laid_orangebox_frame_syncs)] [.data] true :=
  Program.laidByTextLater.sub seatTie1 ["orangebox/frame.syncs"] (by kernel_rfl) (by kernel_rfl)
theorem ringNewMatchesSpec_row_tie : Rows.ringNewMatchesSpecRow.laidByTextAt .later Tryz.pinned [.data] true :=
  OpenClaim.laidByTextAt_later rfl rfl tie noOwnUnsafe
theorem ringMemoriesAreCopies_row_tie : Rows.ringMemoriesAreCopiesRow.laidByTextAt .later Tryz.pinned [.data] true :=
  OpenClaim.laidByTextAt_later rfl rfl tie noOwnUnsafe
theorem ringPutMatchesSpec_row_tie : Rows.ringPutMatchesSpecRow.laidByTextAt .later Tryz.pinned [.data] true :=
  OpenClaim.laidByTextAt_later rfl rfl tie noOwnUnsafe
theorem ringRecoverMatchesSpec_row_tie : Rows.ringRecoverMatchesSpecRow.laidByTextAt .later Tryz.pinned [.data] true :=
  OpenClaim.laidByTextAt_later rfl rfl tie noOwnUnsafe
theorem ringSectorMatchesSpec_row_tie : Rows.ringSectorMatchesSpecRow.laidByTextAt .later Tryz.pinned [.data] true :=
  OpenClaim.laidByTextAt_later rfl rfl tie noOwnUnsafe
theorem ringCheckMatchesSpec_row_tie : Rows.ringCheckMatchesSpecRow.laidByTextAt .later Tryz.pinned [.data] true :=
  OpenClaim.laidByTextAt_later rfl rfl tie noOwnUnsafe
theorem ringRecorderMatchesSpec_row_tie : Rows.ringRecorderMatchesSpecRow.laidByTextAt .later Tryz.pinned [.data] true :=
  OpenClaim.laidByTextAt_later rfl rfl tie noOwnUnsafe
theorem ringNewMatchesSpecUpto_row_tie : Rows.ringNewMatchesSpecUptoRow.laidByTextAt .later Tryz.pinned [.data] true :=
  OpenClaim.laidByTextAt_later rfl rfl tie noOwnUnsafe
theorem ringMemoriesAreCopiesUpto_row_tie : Rows.ringMemoriesAreCopiesUptoRow.laidByTextAt .later Tryz.pinned [.data] true :=
  OpenClaim.laidByTextAt_later rfl rfl tie noOwnUnsafe
theorem ringPutMatchesSpecUpto_row_tie : Rows.ringPutMatchesSpecUptoRow.laidByTextAt .later Tryz.pinned [.data] true :=
  OpenClaim.laidByTextAt_later rfl rfl tie noOwnUnsafe
theorem ringRecoverMatchesSpecUpto_row_tie : Rows.ringRecoverMatchesSpecUptoRow.laidByTextAt .later Tryz.pinned [.data] true :=
  OpenClaim.laidByTextAt_later rfl rfl tie noOwnUnsafe
theorem ringSectorMatchesSpecUpto_row_tie : Rows.ringSectorMatchesSpecUptoRow.laidByTextAt .later Tryz.pinned [.data] true :=
  OpenClaim.laidByTextAt_later rfl rfl tie noOwnUnsafe
theorem ringCheckMatchesSpecUpto_row_tie : Rows.ringCheckMatchesSpecUptoRow.laidByTextAt .later Tryz.pinned [.data] true :=
  OpenClaim.laidByTextAt_later rfl rfl tie noOwnUnsafe
theorem ringRecorderMatchesSpecUpto_row_tie : Rows.ringRecorderMatchesSpecUptoRow.laidByTextAt .later Tryz.pinned [.data] true :=
  OpenClaim.laidByTextAt_later rfl rfl tie noOwnUnsafe
end Go.Proofs.YtnlmjeleocelgaaGreatDoor

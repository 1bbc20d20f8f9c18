/- A text of the proof: a verified executor of the program form, or the contracts of the functions that the law reaches. -/
import Derived.Test.YtnlmjeleocelgaaDoorRowRw
set_option linter.all false
namespace Go.Proofs.YtnlmjeleocelgaaDoor.ringWritesWholeFrames
open Go Go.ChangeShapes Go.WideShapes Go.ChangeAt Go.RowKit Go.Vx
set_option maxRecDepth 100000
theorem cWf : Rows.ringWritesWholeFramesRow.wfByText (OpenSpec.ofChange Rows.ringWritesWholeFramesSpec) = true := by kernel_rfl
theorem cGoes : false = Rows.ringWritesWholeFramesRow.goesBy Tryd.pinned.checked.prog := by kernel_rfl
theorem cLooks : false = Tryd.pinned.checked.prog.looks [] := by kernel_rfl
theorem cFn : Tryd.prog.funcNamed Rows.ringWritesWholeFramesRow.func = some 5 := by kernel_rfl
theorem cStand : ([34, 3, 35].all fun u => !Tryd.prog.wantsStandIn u) = true := by kernel_rfl
theorem proved : Rows.RingWritesWholeFramesCardSaid :=
  Claim7.holds_tied_plain_at .later [] _ true _ false over (fun _ h => by cases h) cWf (fun _ h => by cases h) ringWritesWholeFrames_row_tie rfl ⟨rfl, rfl⟩ (by kernel_rfl) rfl
    (fun f fn hf hfn => by
      obtain rfl : f = 5 := Option.some.inj (cFn.symm.trans hf) |>.symm
      obtain rfl : fn = Tryd.f5 := (Option.some.inj (Tryd.func5.symm.trans hfn)).symm
      exact ⟨cLooks, fun j t ht => by
        rw [Tryd.params5] at ht
        have hm : t ∈ [34, 3, 35] := by simpa using Array.mem_of_getElem? ht
        exact (show Tryd.prog.wantsStandIn t = false by simpa using List.all_eq_true.1 cStand t hm)⟩)
    cGoes
end Go.Proofs.YtnlmjeleocelgaaDoor.ringWritesWholeFrames

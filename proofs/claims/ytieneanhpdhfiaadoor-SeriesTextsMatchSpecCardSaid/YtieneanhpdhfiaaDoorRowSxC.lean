/- A text of the proof: a verified executor of the program form, or the contracts of the functions that the law reaches. -/
import Derived.Test.YtieneanhpdhfiaaDoorRowSx
set_option linter.all false
namespace Go.Proofs.YtieneanhpdhfiaaDoor.seriesTextsMatchSpec
open Go Go.ChangeShapes Go.WideShapes Go.ChangeAt Go.RowKit Go.Vx
set_option maxRecDepth 100000
theorem cWf : Rows.seriesTextsMatchSpecRow.wfByText (OpenSpec.ofChange Rows.seriesTextsMatchSpecSpec) = true := by kernel_rfl
theorem cGoes : false = Rows.seriesTextsMatchSpecRow.goesBy Tryd.pinned.checked.prog := by kernel_rfl
theorem cLooks : true = Tryd.pinned.checked.prog.looks [] := by kernel_rfl
theorem cFn : Tryd.prog.funcNamed Rows.seriesTextsMatchSpecRow.func = some 3 := by kernel_rfl
theorem cStand : ([24, 9].all fun u => !Tryd.prog.wantsStandIn u) = true := by kernel_rfl
theorem proved : Rows.SeriesTextsMatchSpecCardSaid :=
  Claim7.holds_tied_plain_at .later [] _ true _ true over (fun _ h => by cases h) cWf (fun _ h => by cases h) seriesTextsMatchSpec_row_tie rfl ⟨rfl, rfl⟩ (by kernel_rfl) rfl
    (fun f fn hf hfn => by
      obtain rfl : f = 3 := Option.some.inj (cFn.symm.trans hf) |>.symm
      obtain rfl : fn = Tryd.f3 := (Option.some.inj (Tryd.func3.symm.trans hfn)).symm
      exact ⟨cLooks, fun j t ht => by
        rw [Tryd.params3] at ht
        have hm : t ∈ [24, 9] := by simpa using Array.mem_of_getElem? ht
        exact (show Tryd.prog.wantsStandIn t = false by simpa using List.all_eq_true.1 cStand t hm)⟩)
    cGoes
end Go.Proofs.YtieneanhpdhfiaaDoor.seriesTextsMatchSpec

/- A text of the proof: a verified executor of the program form, or the contracts of the functions that the law reaches. -/
import Derived.Test.YtailpehcgelmdaaGreatDoorRowPr
set_option linter.all false
namespace Go.Proofs.YtailpehcgelmdaaGreatDoor.panelReplayMatchesSpec
open Go Go.ChangeShapes Go.WideShapes Go.ChangeAt Go.RowKit Go.Vx
set_option maxRecDepth 100000
theorem cWf : Rows.panelReplayMatchesSpecRow.wfByText (OpenSpec.ofChange Rows.panelReplayMatchesSpecSpec) = true := by kernel_rfl
theorem cGoes : false = Rows.panelReplayMatchesSpecRow.goesBy Tryz.pinned.checked.prog := by kernel_rfl
theorem cLooks : false = Tryz.pinned.checked.prog.looks [] := by kernel_rfl
theorem cFn : Tryz.prog.funcNamed Rows.panelReplayMatchesSpecRow.func = some 6 := by kernel_rfl
theorem cStand : ([24, 25, 3, 67].all fun u => !Tryz.prog.wantsStandIn u) = true := by kernel_rfl
theorem proved : Rows.PanelReplayMatchesSpecCardSaid :=
  Claim7.holds_tied_plain_at .later [] _ true _ false over (fun _ h => by cases h) cWf (fun _ h => by cases h) panelReplayMatchesSpec_row_tie rfl ⟨rfl, rfl⟩ (by kernel_rfl) rfl
    (fun f fn hf hfn => by
      obtain rfl : f = 6 := Option.some.inj (cFn.symm.trans hf) |>.symm
      obtain rfl : fn = Tryz.f6 := (Option.some.inj (Tryz.func6.symm.trans hfn)).symm
      exact ⟨cLooks, fun j t ht => by
        rw [Tryz.params6] at ht
        have hm : t ∈ [24, 25, 3, 67] := by simpa using Array.mem_of_getElem? ht
        exact (show Tryz.prog.wantsStandIn t = false by simpa using List.all_eq_true.1 cStand t hm)⟩)
    cGoes
end Go.Proofs.YtailpehcgelmdaaGreatDoor.panelReplayMatchesSpec

/- A text of the proof: a verified executor of the program form, or the contracts of the functions that the law reaches. -/
import Derived.Test.YtailpehcgelmdaaGreatDoorRowPa
set_option linter.all false
namespace Go.Proofs.YtailpehcgelmdaaGreatDoor.panelAdvanceMatchesSpec
open Go Go.ChangeShapes Go.WideShapes Go.ChangeAt Go.RowKit Go.Vx
set_option maxRecDepth 100000
theorem cWf : Rows.panelAdvanceMatchesSpecRow.wfByText (OpenSpec.ofChange Rows.panelAdvanceMatchesSpecSpec) = true := by kernel_rfl
theorem cGoes : false = Rows.panelAdvanceMatchesSpecRow.goesBy Tryz.pinned.checked.prog := by kernel_rfl
theorem cLooks : false = Tryz.pinned.checked.prog.looks [] := by kernel_rfl
theorem cFn : Tryz.prog.funcNamed Rows.panelAdvanceMatchesSpecRow.func = some 5 := by kernel_rfl
theorem cStand : ([24, 25, 44].all fun u => !Tryz.prog.wantsStandIn u) = true := by kernel_rfl
theorem proved : Rows.PanelAdvanceMatchesSpecCardSaid :=
  Claim7.holds_tied_plain_at .later [] _ true _ false over (fun _ h => by cases h) cWf (fun _ h => by cases h) panelAdvanceMatchesSpec_row_tie rfl ⟨rfl, rfl⟩ (by kernel_rfl) rfl
    (fun f fn hf hfn => by
      obtain rfl : f = 5 := Option.some.inj (cFn.symm.trans hf) |>.symm
      obtain rfl : fn = Tryz.f5 := (Option.some.inj (Tryz.func5.symm.trans hfn)).symm
      exact ⟨cLooks, fun j t ht => by
        rw [Tryz.params5] at ht
        have hm : t ∈ [24, 25, 44] := by simpa using Array.mem_of_getElem? ht
        exact (show Tryz.prog.wantsStandIn t = false by simpa using List.all_eq_true.1 cStand t hm)⟩)
    cGoes
end Go.Proofs.YtailpehcgelmdaaGreatDoor.panelAdvanceMatchesSpec

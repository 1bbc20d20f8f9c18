/- A text of the proof: a verified executor of the program form, or the contracts of the functions that the law reaches. -/
import Derived.Test.YtgohgnaapbpggaaGreatDoorRowRr
set_option linter.all false
namespace Go.Proofs.YtgohgnaapbpggaaGreatDoor.ringRecorderMatchesSpec
open Go Go.ChangeShapes Go.WideShapes Go.ChangeAt Go.RowKit Go.Vx
set_option maxRecDepth 100000
theorem cWf : Rows.ringRecorderMatchesSpecRow.wfByText (OpenSpec.ofChange Rows.ringRecorderMatchesSpecSpec) = true := by kernel_rfl
theorem cGoes : false = Rows.ringRecorderMatchesSpecRow.goesBy Tryz.pinned.checked.prog := by kernel_rfl
theorem cLooks : false = Tryz.pinned.checked.prog.looks [] := by kernel_rfl
theorem cFn : Tryz.prog.funcNamed Rows.ringRecorderMatchesSpecRow.func = some 4 := by kernel_rfl
theorem cStand : ([36, 3, 37].all fun u => !Tryz.prog.wantsStandIn u) = true := by kernel_rfl
theorem proved : Rows.RingRecorderMatchesSpecCardSaid :=
  Claim7.holds_tied_plain_at .later [] _ true _ false over (fun _ h => by cases h) cWf (fun _ h => by cases h) ringRecorderMatchesSpec_row_tie rfl ⟨rfl, rfl⟩ (by kernel_rfl) rfl
    (fun f fn hf hfn => by
      obtain rfl : f = 4 := Option.some.inj (cFn.symm.trans hf) |>.symm
      obtain rfl : fn = Tryz.f4 := (Option.some.inj (Tryz.func4.symm.trans hfn)).symm
      exact ⟨cLooks, fun j t ht => by
        rw [Tryz.params4] at ht
        have hm : t ∈ [36, 3, 37] := by simpa using Array.mem_of_getElem? ht
        exact (show Tryz.prog.wantsStandIn t = false by simpa using List.all_eq_true.1 cStand t hm)⟩)
    cGoes
end Go.Proofs.YtgohgnaapbpggaaGreatDoor.ringRecorderMatchesSpec

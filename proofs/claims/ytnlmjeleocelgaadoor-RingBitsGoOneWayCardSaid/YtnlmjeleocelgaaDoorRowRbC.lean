/- A text of the proof: a verified executor of the program form, or the contracts of the functions that the law reaches. -/
import Derived.Test.YtnlmjeleocelgaaDoorRowRb
set_option linter.all false
namespace Go.Proofs.YtnlmjeleocelgaaDoor.ringBitsGoOneWay
open Go Go.ChangeShapes Go.WideShapes Go.ChangeAt Go.RowKit Go.Vx
set_option maxRecDepth 100000
theorem cWf : Rows.ringBitsGoOneWayRow.wfByText (OpenSpec.ofChange Rows.ringBitsGoOneWaySpec) = true := by kernel_rfl
theorem cGoes : false = Rows.ringBitsGoOneWayRow.goesBy Tryd.pinned.checked.prog := by kernel_rfl
theorem cLooks : false = Tryd.pinned.checked.prog.looks [] := by kernel_rfl
theorem cFn : Tryd.prog.funcNamed Rows.ringBitsGoOneWayRow.func = some 4 := by kernel_rfl
theorem cStand : ([29, 3, 29, 3].all fun u => !Tryd.prog.wantsStandIn u) = true := by kernel_rfl
theorem proved : Rows.RingBitsGoOneWayCardSaid :=
  Claim7.holds_tied_plain_at .later [] _ true _ false over (fun _ h => by cases h) cWf (fun _ h => by cases h) ringBitsGoOneWay_row_tie rfl ⟨rfl, rfl⟩ (by kernel_rfl) rfl
    (fun f fn hf hfn => by
      obtain rfl : f = 4 := Option.some.inj (cFn.symm.trans hf) |>.symm
      obtain rfl : fn = Tryd.f4 := (Option.some.inj (Tryd.func4.symm.trans hfn)).symm
      exact ⟨cLooks, fun j t ht => by
        rw [Tryd.params4] at ht
        have hm : t ∈ [29, 3, 29, 3] := by simpa using Array.mem_of_getElem? ht
        exact (show Tryd.prog.wantsStandIn t = false by simpa using List.all_eq_true.1 cStand t hm)⟩)
    cGoes
end Go.Proofs.YtnlmjeleocelgaaDoor.ringBitsGoOneWay

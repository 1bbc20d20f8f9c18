/- A text of the proof: a verified executor of the program form, or the contracts of the functions that the law reaches. -/
import Derived.Test.YtgohgnaapbpggaaGreatDoorRowRp
set_option linter.all false
namespace Go.Proofs.YtgohgnaapbpggaaGreatDoor.ringPutMatchesSpec
open Go Go.ChangeShapes Go.WideShapes Go.ChangeAt Go.RowKit Go.Vx
set_option maxRecDepth 100000
theorem cWf : Rows.ringPutMatchesSpecRow.wfByText (OpenSpec.ofChange Rows.ringPutMatchesSpecSpec) = true := by kernel_rfl
theorem cGoes : false = Rows.ringPutMatchesSpecRow.goesBy Tryz.pinned.checked.prog := by kernel_rfl
theorem cLooks : false = Tryz.pinned.checked.prog.looks [] := by kernel_rfl
theorem cFn : Tryz.prog.funcNamed Rows.ringPutMatchesSpecRow.func = some 3 := by kernel_rfl
theorem cStand : ([22, 3, 22, 3].all fun u => !Tryz.prog.wantsStandIn u) = true := by kernel_rfl
theorem proved : Rows.RingPutMatchesSpecCardSaid :=
  Claim7.holds_tied_plain_at .later [] _ true _ false over (fun _ h => by cases h) cWf (fun _ h => by cases h) ringPutMatchesSpec_row_tie rfl ⟨rfl, rfl⟩ (by kernel_rfl) rfl
    (fun f fn hf hfn => by
      obtain rfl : f = 3 := Option.some.inj (cFn.symm.trans hf) |>.symm
      obtain rfl : fn = Tryz.f3 := (Option.some.inj (Tryz.func3.symm.trans hfn)).symm
      exact ⟨cLooks, fun j t ht => by
        rw [Tryz.params3] at ht
        have hm : t ∈ [22, 3, 22, 3] := by simpa using Array.mem_of_getElem? ht
        exact (show Tryz.prog.wantsStandIn t = false by simpa using List.all_eq_true.1 cStand t hm)⟩)
    cGoes
end Go.Proofs.YtgohgnaapbpggaaGreatDoor.ringPutMatchesSpec

/- A text of the proof: a verified executor of the program form, or the contracts of the functions that the law reaches. -/
import Derived.Test.YtciaeohnkfnamaaDoorRowFa
set_option linter.all false
namespace Go.Proofs.YtciaeohnkfnamaaDoor.salvageFrameAtMatchesSpec
open Go Go.ChangeShapes Go.WideShapes Go.ChangeAt Go.RowKit Go.Vx
set_option maxRecDepth 100000
theorem cWf : Rows.salvageFrameAtMatchesSpecRow.wfByText (OpenSpec.ofChange Rows.salvageFrameAtMatchesSpecSpec) = true := by kernel_rfl
theorem cGoes : false = Rows.salvageFrameAtMatchesSpecRow.goesBy Tryd.pinned.checked.prog := by kernel_rfl
theorem cLooks : false = Tryd.pinned.checked.prog.looks [] := by kernel_rfl
theorem cFn : Tryd.prog.funcNamed Rows.salvageFrameAtMatchesSpecRow.func = some 4 := by kernel_rfl
theorem cStand : ([35, 3].all fun u => !Tryd.prog.wantsStandIn u) = true := by kernel_rfl
theorem proved : Rows.SalvageFrameAtMatchesSpecCardSaid :=
  Claim7.holds_tied_plain_at .later [] _ true _ false over (fun _ h => by cases h) cWf (fun _ h => by cases h) salvageFrameAtMatchesSpec_row_tie rfl ⟨rfl, rfl⟩ (by kernel_rfl) rfl
    (fun f fn hf hfn => by
      obtain rfl : f = 4 := Option.some.inj (cFn.symm.trans hf) |>.symm
      obtain rfl : fn = Tryd.f4 := (Option.some.inj (Tryd.func4.symm.trans hfn)).symm
      exact ⟨cLooks, fun j t ht => by
        rw [Tryd.params4] at ht
        have hm : t ∈ [35, 3] := by simpa using Array.mem_of_getElem? ht
        exact (show Tryd.prog.wantsStandIn t = false by simpa using List.all_eq_true.1 cStand t hm)⟩)
    cGoes
end Go.Proofs.YtciaeohnkfnamaaDoor.salvageFrameAtMatchesSpec

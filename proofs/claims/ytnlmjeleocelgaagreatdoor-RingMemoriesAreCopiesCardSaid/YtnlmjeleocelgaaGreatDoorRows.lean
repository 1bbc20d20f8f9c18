/-
  NARROWER THAN 'FOR EVERY INPUT', by the rows' own cells (each row's printed sentence says how): RingNewMatchesSpec: laid · RingMemoriesAreCopies: laid · RingPutMatchesSpec: laid · RingRecoverMatchesSpec: laid · RingSectorMatchesSpec: laid · RingCheckMatchesSpec: laid · RingRecorderMatchesSpec: laid.
  DERIVED. THE GIVEN ROWS OF THIS SEAT. 7 by the template 'for every input the law returns true; each argument reads behind the call as it read before'; 0 by the template 'total and deterministic' (their statements: YtnlmjeleocelgaaGreatDoorTotals.lean).
  GIVEN WITH THE SEED: the statements are not yours to turn. If you find one false, say at which input.
  Laid BY PROGRAM, IN A SANDBOX (cutbox-rows.mjs): the forced cells as the released guide's own fill.sh prints them over the translation 9a8ed6e6d73b6bc6… (all of the seat's roots in one cut). By AI agents, Wed Nov 11 2026. No macro, syntax, notation, axiom, sorry.
-/
import Derived.Test.YtnlmjeleocelgaaGreatDoorChecked
import GoSem.Claim
import GoSem.ClaimJoined
import GoSem.ClaimMapViews
import Derived.JoinedTies
import Derived.KernelRfl
namespace Go.Proofs.YtnlmjeleocelgaaGreatDoor
/- THE CELL 'sum', in the pinned program and in every row, IS THE sha256 OF THE DUMP (.gsa) THAT YtnlmjeleocelgaaGreatDoorProg.lean LOADS. Nothing in Lean hashes anything: it is a label: what it is worth is what the hold of that sum in a sandbox is worth. -/
noncomputable def Tryz.pinned : Pinned := { name := "ytnlmjeleocelgaagreatdoor", sum := "9a8ed6e6d73b6bc6faf53ba907828e2ad90ffef98c039e061bf8e6fbfd754537", checked := Tryz.checked }
namespace Rows
def none {H : Type} : Left H := { results := [], args := [] }

/- WHAT THE LISTED PACKAGE-LEVEL VARIABLES READ AS WHEN THE CALL BEGINS. Each datum BY PROGRAM (the guide's laid-datum.mjs) off the statement by which the dump's own 'gosem.cut.vars' lays the variable. In a bare row this is a premise. The card (YtnlmjeleocelgaaGreatDoorCards.lean) ties it to the program's text. -/
def laid_orangebox_frame_syncs {H : Type} : DataW H := .agg [.lit (.int .u16 583), .lit (.int .u16 1464), .lit (.int .u16 2631), .lit (.int .u16 3512)]

/-- 'orangeboxlaw3.RingNewMatchesSpec': WHATEVER THE INPUT: true; the input reads as it did. -/
def ringNewMatchesSpecSpec : ChangeSpec := { name := "ringNewMatchesSpec", fn := fun _ => fun
  | [d1, d2, d3] => { results := [.lit (.bool true)], args := [d1, d2, d3] }
  | _ => none }
def ringNewMatchesSpecRow : OpenClaim := { program := "ytnlmjeleocelgaagreatdoor", sum := "9a8ed6e6d73b6bc6faf53ba907828e2ad90ffef98c039e061bf8e6fbfd754537", func := "orangebox/orangeboxlaw3.RingNewMatchesSpec", spec := "ringNewMatchesSpec", unfollowed := true, recurses := true, named := ["orangebox/frame.syncs"], apart := false, laid := [("orangebox/frame.syncs", laid_orangebox_frame_syncs)] }
def RingNewMatchesSpecSaid : Prop := ringNewMatchesSpecRow.holds Tryz.pinned (OpenSpec.ofChange ringNewMatchesSpecSpec)

/-- ITS FALSE NEIGHBOUR: 'it returns false'. Refute it at one input. -/
def ringNewMatchesSpecWrong : ChangeSpec := { name := "ringNewMatchesSpec", fn := fun _ => fun
  | [d1, d2, d3] => { results := [.lit (.bool false)], args := [d1, d2, d3] }
  | _ => none }
def RingNewMatchesSpecWrongFalsely : Prop := ringNewMatchesSpecRow.holds Tryz.pinned (OpenSpec.ofChange ringNewMatchesSpecWrong)

/-- 'orangeboxlaw3.RingMemoriesAreCopies': WHATEVER THE INPUT: true; the input reads as it did. -/
def ringMemoriesAreCopiesSpec : ChangeSpec := { name := "ringMemoriesAreCopies", fn := fun _ => fun
  | [d1, d2, d3] => { results := [.lit (.bool true)], args := [d1, d2, d3] }
  | _ => none }
def ringMemoriesAreCopiesRow : OpenClaim := { program := "ytnlmjeleocelgaagreatdoor", sum := "9a8ed6e6d73b6bc6faf53ba907828e2ad90ffef98c039e061bf8e6fbfd754537", func := "orangebox/orangeboxlaw3.RingMemoriesAreCopies", spec := "ringMemoriesAreCopies", unfollowed := true, recurses := true, named := ["orangebox/frame.syncs"], apart := false, laid := [("orangebox/frame.syncs", laid_orangebox_frame_syncs)] }
def RingMemoriesAreCopiesSaid : Prop := ringMemoriesAreCopiesRow.holds Tryz.pinned (OpenSpec.ofChange ringMemoriesAreCopiesSpec)

/-- ITS FALSE NEIGHBOUR: 'it returns false'. Refute it at one input. -/
def ringMemoriesAreCopiesWrong : ChangeSpec := { name := "ringMemoriesAreCopies", fn := fun _ => fun
  | [d1, d2, d3] => { results := [.lit (.bool false)], args := [d1, d2, d3] }
  | _ => none }
def RingMemoriesAreCopiesWrongFalsely : Prop := ringMemoriesAreCopiesRow.holds Tryz.pinned (OpenSpec.ofChange ringMemoriesAreCopiesWrong)

/-- 'orangeboxlaw3.RingPutMatchesSpec': WHATEVER THE INPUT: true; the input reads as it did. -/
def ringPutMatchesSpecSpec : ChangeSpec := { name := "ringPutMatchesSpec", fn := fun _ => fun
  | [d1, d2, d3, d4] => { results := [.lit (.bool true)], args := [d1, d2, d3, d4] }
  | _ => none }
def ringPutMatchesSpecRow : OpenClaim := { program := "ytnlmjeleocelgaagreatdoor", sum := "9a8ed6e6d73b6bc6faf53ba907828e2ad90ffef98c039e061bf8e6fbfd754537", func := "orangebox/orangeboxlaw3.RingPutMatchesSpec", spec := "ringPutMatchesSpec", unfollowed := true, recurses := true, named := ["orangebox/frame.syncs"], apart := false, laid := [("orangebox/frame.syncs", laid_orangebox_frame_syncs)] }
def RingPutMatchesSpecSaid : Prop := ringPutMatchesSpecRow.holds Tryz.pinned (OpenSpec.ofChange ringPutMatchesSpecSpec)

/-- ITS FALSE NEIGHBOUR: 'it returns false'. Refute it at one input. -/
def ringPutMatchesSpecWrong : ChangeSpec := { name := "ringPutMatchesSpec", fn := fun _ => fun
  | [d1, d2, d3, d4] => { results := [.lit (.bool false)], args := [d1, d2, d3, d4] }
  | _ => none }
def RingPutMatchesSpecWrongFalsely : Prop := ringPutMatchesSpecRow.holds Tryz.pinned (OpenSpec.ofChange ringPutMatchesSpecWrong)

/-- 'orangeboxlaw3.RingRecoverMatchesSpec': WHATEVER THE INPUT: true; the input reads as it did. -/
def ringRecoverMatchesSpecSpec : ChangeSpec := { name := "ringRecoverMatchesSpec", fn := fun _ => fun
  | [d1, d2] => { results := [.lit (.bool true)], args := [d1, d2] }
  | _ => none }
def ringRecoverMatchesSpecRow : OpenClaim := { program := "ytnlmjeleocelgaagreatdoor", sum := "9a8ed6e6d73b6bc6faf53ba907828e2ad90ffef98c039e061bf8e6fbfd754537", func := "orangebox/orangeboxlaw3.RingRecoverMatchesSpec", spec := "ringRecoverMatchesSpec", unfollowed := true, recurses := true, named := ["orangebox/frame.syncs"], apart := false, laid := [("orangebox/frame.syncs", laid_orangebox_frame_syncs)] }
def RingRecoverMatchesSpecSaid : Prop := ringRecoverMatchesSpecRow.holds Tryz.pinned (OpenSpec.ofChange ringRecoverMatchesSpecSpec)

/-- ITS FALSE NEIGHBOUR: 'it returns false'. Refute it at one input. -/
def ringRecoverMatchesSpecWrong : ChangeSpec := { name := "ringRecoverMatchesSpec", fn := fun _ => fun
  | [d1, d2] => { results := [.lit (.bool false)], args := [d1, d2] }
  | _ => none }
def RingRecoverMatchesSpecWrongFalsely : Prop := ringRecoverMatchesSpecRow.holds Tryz.pinned (OpenSpec.ofChange ringRecoverMatchesSpecWrong)

/-- 'orangeboxlaw3.RingSectorMatchesSpec': WHATEVER THE INPUT: true; the input reads as it did. -/
def ringSectorMatchesSpecSpec : ChangeSpec := { name := "ringSectorMatchesSpec", fn := fun _ => fun
  | [d1, d2] => { results := [.lit (.bool true)], args := [d1, d2] }
  | _ => none }
def ringSectorMatchesSpecRow : OpenClaim := { program := "ytnlmjeleocelgaagreatdoor", sum := "9a8ed6e6d73b6bc6faf53ba907828e2ad90ffef98c039e061bf8e6fbfd754537", func := "orangebox/orangeboxlaw3.RingSectorMatchesSpec", spec := "ringSectorMatchesSpec", unfollowed := true, recurses := true, named := ["orangebox/frame.syncs"], apart := false, laid := [("orangebox/frame.syncs", laid_orangebox_frame_syncs)] }
def RingSectorMatchesSpecSaid : Prop := ringSectorMatchesSpecRow.holds Tryz.pinned (OpenSpec.ofChange ringSectorMatchesSpecSpec)

/-- ITS FALSE NEIGHBOUR: 'it returns false'. Refute it at one input. -/
def ringSectorMatchesSpecWrong : ChangeSpec := { name := "ringSectorMatchesSpec", fn := fun _ => fun
  | [d1, d2] => { results := [.lit (.bool false)], args := [d1, d2] }
  | _ => none }
def RingSectorMatchesSpecWrongFalsely : Prop := ringSectorMatchesSpecRow.holds Tryz.pinned (OpenSpec.ofChange ringSectorMatchesSpecWrong)

/-- 'orangeboxlaw3.RingCheckMatchesSpec': WHATEVER THE INPUT: true; the input reads as it did. -/
def ringCheckMatchesSpecSpec : ChangeSpec := { name := "ringCheckMatchesSpec", fn := fun _ => fun
  | [d1, d2] => { results := [.lit (.bool true)], args := [d1, d2] }
  | _ => none }
def ringCheckMatchesSpecRow : OpenClaim := { program := "ytnlmjeleocelgaagreatdoor", sum := "9a8ed6e6d73b6bc6faf53ba907828e2ad90ffef98c039e061bf8e6fbfd754537", func := "orangebox/orangeboxlaw3.RingCheckMatchesSpec", spec := "ringCheckMatchesSpec", unfollowed := true, recurses := true, named := ["orangebox/frame.syncs"], apart := false, laid := [("orangebox/frame.syncs", laid_orangebox_frame_syncs)] }
def RingCheckMatchesSpecSaid : Prop := ringCheckMatchesSpecRow.holds Tryz.pinned (OpenSpec.ofChange ringCheckMatchesSpecSpec)

/-- ITS FALSE NEIGHBOUR: 'it returns false'. Refute it at one input. -/
def ringCheckMatchesSpecWrong : ChangeSpec := { name := "ringCheckMatchesSpec", fn := fun _ => fun
  | [d1, d2] => { results := [.lit (.bool false)], args := [d1, d2] }
  | _ => none }
def RingCheckMatchesSpecWrongFalsely : Prop := ringCheckMatchesSpecRow.holds Tryz.pinned (OpenSpec.ofChange ringCheckMatchesSpecWrong)

/-- 'orangeboxlaw3.RingRecorderMatchesSpec': WHATEVER THE INPUT: true; the input reads as it did. -/
def ringRecorderMatchesSpecSpec : ChangeSpec := { name := "ringRecorderMatchesSpec", fn := fun _ => fun
  | [d1, d2, d3] => { results := [.lit (.bool true)], args := [d1, d2, d3] }
  | _ => none }
def ringRecorderMatchesSpecRow : OpenClaim := { program := "ytnlmjeleocelgaagreatdoor", sum := "9a8ed6e6d73b6bc6faf53ba907828e2ad90ffef98c039e061bf8e6fbfd754537", func := "orangebox/orangeboxlaw3.RingRecorderMatchesSpec", spec := "ringRecorderMatchesSpec", unfollowed := true, recurses := true, named := ["orangebox/frame.syncs"], apart := false, laid := [("orangebox/frame.syncs", laid_orangebox_frame_syncs)] }
def RingRecorderMatchesSpecSaid : Prop := ringRecorderMatchesSpecRow.holds Tryz.pinned (OpenSpec.ofChange ringRecorderMatchesSpecSpec)

/-- ITS FALSE NEIGHBOUR: 'it returns false'. Refute it at one input. -/
def ringRecorderMatchesSpecWrong : ChangeSpec := { name := "ringRecorderMatchesSpec", fn := fun _ => fun
  | [d1, d2, d3] => { results := [.lit (.bool false)], args := [d1, d2, d3] }
  | _ => none }
def RingRecorderMatchesSpecWrongFalsely : Prop := ringRecorderMatchesSpecRow.holds Tryz.pinned (OpenSpec.ofChange ringRecorderMatchesSpecWrong)

/- THE SECOND FORM. 'bulk': how many values and letters a reading holds, each counted each time it is reached (what is shared counts as often as it is met; a slice's spare places count too). A statement '..UptoSaid' is the law's where the arguments, and the package variables that the reading takes, are together of bulk at most 1048576: NARROWER than '..Said'. Prove '..Said' where nothing that the law and all that it calls make is longer than what came in: it says more and counts as full. Else prove '..UptoSaid'. A law counts once. -/
mutual
def uptoBulk {H : Type} : DataW H → Nat
  | .lit (.string bytes) => bytes.length + 1
  | .lit _ => 1
  | .nil => 1
  | .ptr d => uptoBulk d + 1
  | .slice elems spare => uptoBulkAll elems + uptoBulkAll spare + 1
  | .agg parts => uptoBulkAll parts + 1
  | .iface _ d => uptoBulk d + 1
  | .map entries => uptoBulkEntries entries + 1
  | .held _ => 1
def uptoBulkAll {H : Type} : List (DataW H) → Nat
  | [] => 0
  | d :: r => uptoBulk d + uptoBulkAll r
def uptoBulkEntries {H : Type} : List (Lit × DataW H) → Nat
  | [] => 0
  | x :: r => uptoBulkEntry x + uptoBulkEntries r
def uptoBulkEntry {H : Type} : Lit × DataW H → Nat
  | (.string bytes, d) => bytes.length + uptoBulk d + 1
  | (_, d) => uptoBulk d + 1
 end
def uptoSmall : (H : Type) → List (DataW H) → Bool := fun _ ds => decide (uptoBulkAll ds ≤ 1048576)
def OpenSpec.upto (s : _root_.Go.ChangeSpec) : _root_.Go.OpenSpec := { _root_.Go.OpenSpec.ofChange s with cond := some uptoSmall }

/-- 'orangeboxlaw3.RingNewMatchesSpec', WHERE WHAT IT READS IS OF BULK AT MOST 1048576: true; the input reads as it did. -/
def ringNewMatchesSpecUptoRow : OpenClaim := { program := "ytnlmjeleocelgaagreatdoor", sum := "9a8ed6e6d73b6bc6faf53ba907828e2ad90ffef98c039e061bf8e6fbfd754537", func := "orangebox/orangeboxlaw3.RingNewMatchesSpec", spec := "ringNewMatchesSpec", unfollowed := true, recurses := true, named := ["orangebox/frame.syncs"], apart := false, laid := [("orangebox/frame.syncs", laid_orangebox_frame_syncs)], narrowed := true }
def RingNewMatchesSpecUptoSaid : Prop := ringNewMatchesSpecUptoRow.holds Tryz.pinned (OpenSpec.upto ringNewMatchesSpecSpec)

/-- 'orangeboxlaw3.RingMemoriesAreCopies', WHERE WHAT IT READS IS OF BULK AT MOST 1048576: true; the input reads as it did. -/
def ringMemoriesAreCopiesUptoRow : OpenClaim := { program := "ytnlmjeleocelgaagreatdoor", sum := "9a8ed6e6d73b6bc6faf53ba907828e2ad90ffef98c039e061bf8e6fbfd754537", func := "orangebox/orangeboxlaw3.RingMemoriesAreCopies", spec := "ringMemoriesAreCopies", unfollowed := true, recurses := true, named := ["orangebox/frame.syncs"], apart := false, laid := [("orangebox/frame.syncs", laid_orangebox_frame_syncs)], narrowed := true }
def RingMemoriesAreCopiesUptoSaid : Prop := ringMemoriesAreCopiesUptoRow.holds Tryz.pinned (OpenSpec.upto ringMemoriesAreCopiesSpec)

/-- 'orangeboxlaw3.RingPutMatchesSpec', WHERE WHAT IT READS IS OF BULK AT MOST 1048576: true; the input reads as it did. -/
def ringPutMatchesSpecUptoRow : OpenClaim := { program := "ytnlmjeleocelgaagreatdoor", sum := "9a8ed6e6d73b6bc6faf53ba907828e2ad90ffef98c039e061bf8e6fbfd754537", func := "orangebox/orangeboxlaw3.RingPutMatchesSpec", spec := "ringPutMatchesSpec", unfollowed := true, recurses := true, named := ["orangebox/frame.syncs"], apart := false, laid := [("orangebox/frame.syncs", laid_orangebox_frame_syncs)], narrowed := true }
def RingPutMatchesSpecUptoSaid : Prop := ringPutMatchesSpecUptoRow.holds Tryz.pinned (OpenSpec.upto ringPutMatchesSpecSpec)

/-- 'orangeboxlaw3.RingRecoverMatchesSpec', WHERE WHAT IT READS IS OF BULK AT MOST 1048576: true; the input reads as it did. -/
def ringRecoverMatchesSpecUptoRow : OpenClaim := { program := "ytnlmjeleocelgaagreatdoor", sum := "9a8ed6e6d73b6bc6faf53ba907828e2ad90ffef98c039e061bf8e6fbfd754537", func := "orangebox/orangeboxlaw3.RingRecoverMatchesSpec", spec := "ringRecoverMatchesSpec", unfollowed := true, recurses := true, named := ["orangebox/frame.syncs"], apart := false, laid := [("orangebox/frame.syncs", laid_orangebox_frame_syncs)], narrowed := true }
def RingRecoverMatchesSpecUptoSaid : Prop := ringRecoverMatchesSpecUptoRow.holds Tryz.pinned (OpenSpec.upto ringRecoverMatchesSpecSpec)

/-- 'orangeboxlaw3.RingSectorMatchesSpec', WHERE WHAT IT READS IS OF BULK AT MOST 1048576: true; the input reads as it did. -/
def ringSectorMatchesSpecUptoRow : OpenClaim := { program := "ytnlmjeleocelgaagreatdoor", sum := "9a8ed6e6d73b6bc6faf53ba907828e2ad90ffef98c039e061bf8e6fbfd754537", func := "orangebox/orangeboxlaw3.RingSectorMatchesSpec", spec := "ringSectorMatchesSpec", unfollowed := true, recurses := true, named := ["orangebox/frame.syncs"], apart := false, laid := [("orangebox/frame.syncs", laid_orangebox_frame_syncs)], narrowed := true }
def RingSectorMatchesSpecUptoSaid : Prop := ringSectorMatchesSpecUptoRow.holds Tryz.pinned (OpenSpec.upto ringSectorMatchesSpecSpec)

/-- 'orangeboxlaw3.RingCheckMatchesSpec', WHERE WHAT IT READS IS OF BULK AT MOST 1048576: true; the input reads as it did. -/
def ringCheckMatchesSpecUptoRow : OpenClaim := { program := "ytnlmjeleocelgaagreatdoor", sum := "9a8ed6e6d73b6bc6faf53ba907828e2ad90ffef98c039e061bf8e6fbfd754537", func := "orangebox/orangeboxlaw3.RingCheckMatchesSpec", spec := "ringCheckMatchesSpec", unfollowed := true, recurses := true, named := ["orangebox/frame.syncs"], apart := false, laid := [("orangebox/frame.syncs", laid_orangebox_frame_syncs)], narrowed := true }
def RingCheckMatchesSpecUptoSaid : Prop := ringCheckMatchesSpecUptoRow.holds Tryz.pinned (OpenSpec.upto ringCheckMatchesSpecSpec)

/-- 'orangeboxlaw3.RingRecorderMatchesSpec', WHERE WHAT IT READS IS OF BULK AT MOST 1048576: true; the input reads as it did. -/
def ringRecorderMatchesSpecUptoRow : OpenClaim := { program := "ytnlmjeleocelgaagreatdoor", sum := "9a8ed6e6d73b6bc6faf53ba907828e2ad90ffef98c039e061bf8e6fbfd754537", func := "orangebox/orangeboxlaw3.RingRecorderMatchesSpec", spec := "ringRecorderMatchesSpec", unfollowed := true, recurses := true, named := ["orangebox/frame.syncs"], apart := false, laid := [("orangebox/frame.syncs", laid_orangebox_frame_syncs)], narrowed := true }
def RingRecorderMatchesSpecUptoSaid : Prop := ringRecorderMatchesSpecUptoRow.holds Tryz.pinned (OpenSpec.upto ringRecorderMatchesSpecSpec)

end Rows
end Go.Proofs.YtnlmjeleocelgaaGreatDoor

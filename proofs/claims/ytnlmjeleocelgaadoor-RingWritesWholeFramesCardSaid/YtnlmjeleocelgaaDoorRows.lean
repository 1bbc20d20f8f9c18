/-
  NARROWER THAN 'FOR EVERY INPUT', by the rows' own cells (each row's printed sentence says how): RingTargetsMatchSpec: laid · RingBitsGoOneWay: laid · RingWritesWholeFrames: laid.
  DERIVED. THE GIVEN ROWS OF THIS SEAT. 3 by the template 'for every input the law returns true; each argument reads behind the call as it read before'; 0 by the template 'total and deterministic' (their statements: YtnlmjeleocelgaaDoorTotals.lean).
  GIVEN WITH THE SEED: the statements are not yours to turn. If you find one false, say at which input.
  Laid BY PROGRAM, IN A SANDBOX (cutbox-rows.mjs): the forced cells as the released guide's own fill.sh prints them over the translation 5f0a5b4956268ba3… (all of the seat's roots in one cut). By AI agents, Wed Nov 11 2026. No macro, syntax, notation, axiom, sorry.
-/
import Derived.Test.YtnlmjeleocelgaaDoorChecked
import GoSem.Claim
import GoSem.ClaimJoined
import GoSem.ClaimMapViews
import Derived.JoinedTies
import Derived.KernelRfl
namespace Go.Proofs.YtnlmjeleocelgaaDoor
/- THE CELL 'sum', in the pinned program and in every row, IS THE sha256 OF THE DUMP (.gsa) THAT YtnlmjeleocelgaaDoorProg.lean LOADS. Nothing in Lean hashes anything: it is a label: what it is worth is what the hold of that sum in a sandbox is worth. -/
noncomputable def Tryd.pinned : Pinned := { name := "ytnlmjeleocelgaadoor", sum := "5f0a5b4956268ba3e9762780d81293824fd790292f02c8c65389e49f55570482", checked := Tryd.checked }
namespace Rows
def none {H : Type} : Left H := { results := [], args := [] }

/- WHAT THE LISTED PACKAGE-LEVEL VARIABLES READ AS WHEN THE CALL BEGINS. Each datum BY PROGRAM (the guide's laid-datum.mjs) off the statement by which the dump's own 'gosem.cut.vars' lays the variable. In a bare row this is a premise. The card (YtnlmjeleocelgaaDoorCards.lean) ties it to the program's text. -/
def laid_orangebox_frame_syncs {H : Type} : DataW H := .agg [.lit (.int .u16 583), .lit (.int .u16 1464), .lit (.int .u16 2631), .lit (.int .u16 3512)]

/-- 'orangeboxlaw3.RingTargetsMatchSpec': WHATEVER THE INPUT: true; the input reads as it did. -/
def ringTargetsMatchSpecSpec : ChangeSpec := { name := "ringTargetsMatchSpec", fn := fun _ => fun
  | [d1, d2, d3] => { results := [.lit (.bool true)], args := [d1, d2, d3] }
  | _ => none }
def ringTargetsMatchSpecRow : OpenClaim := { program := "ytnlmjeleocelgaadoor", sum := "5f0a5b4956268ba3e9762780d81293824fd790292f02c8c65389e49f55570482", func := "orangebox/orangeboxlaw3.RingTargetsMatchSpec", spec := "ringTargetsMatchSpec", unfollowed := true, recurses := true, named := ["orangebox/frame.syncs"], apart := false, laid := [("orangebox/frame.syncs", laid_orangebox_frame_syncs)] }
def RingTargetsMatchSpecSaid : Prop := ringTargetsMatchSpecRow.holds Tryd.pinned (OpenSpec.ofChange ringTargetsMatchSpecSpec)

/-- ITS FALSE NEIGHBOUR: 'it returns false'. Refute it at one input. -/
def ringTargetsMatchSpecWrong : ChangeSpec := { name := "ringTargetsMatchSpec", fn := fun _ => fun
  | [d1, d2, d3] => { results := [.lit (.bool false)], args := [d1, d2, d3] }
  | _ => none }
def RingTargetsMatchSpecWrongFalsely : Prop := ringTargetsMatchSpecRow.holds Tryd.pinned (OpenSpec.ofChange ringTargetsMatchSpecWrong)

/-- 'orangeboxlaw3.RingBitsGoOneWay': WHATEVER THE INPUT: true; the input reads as it did. -/
def ringBitsGoOneWaySpec : ChangeSpec := { name := "ringBitsGoOneWay", fn := fun _ => fun
  | [d1, d2, d3, d4] => { results := [.lit (.bool true)], args := [d1, d2, d3, d4] }
  | _ => none }
def ringBitsGoOneWayRow : OpenClaim := { program := "ytnlmjeleocelgaadoor", sum := "5f0a5b4956268ba3e9762780d81293824fd790292f02c8c65389e49f55570482", func := "orangebox/orangeboxlaw3.RingBitsGoOneWay", spec := "ringBitsGoOneWay", unfollowed := true, recurses := true, named := ["orangebox/frame.syncs"], apart := false, laid := [("orangebox/frame.syncs", laid_orangebox_frame_syncs)] }
def RingBitsGoOneWaySaid : Prop := ringBitsGoOneWayRow.holds Tryd.pinned (OpenSpec.ofChange ringBitsGoOneWaySpec)

/-- ITS FALSE NEIGHBOUR: 'it returns false'. Refute it at one input. -/
def ringBitsGoOneWayWrong : ChangeSpec := { name := "ringBitsGoOneWay", fn := fun _ => fun
  | [d1, d2, d3, d4] => { results := [.lit (.bool false)], args := [d1, d2, d3, d4] }
  | _ => none }
def RingBitsGoOneWayWrongFalsely : Prop := ringBitsGoOneWayRow.holds Tryd.pinned (OpenSpec.ofChange ringBitsGoOneWayWrong)

/-- 'orangeboxlaw3.RingWritesWholeFrames': WHATEVER THE INPUT: true; the input reads as it did. -/
def ringWritesWholeFramesSpec : ChangeSpec := { name := "ringWritesWholeFrames", fn := fun _ => fun
  | [d1, d2, d3] => { results := [.lit (.bool true)], args := [d1, d2, d3] }
  | _ => none }
def ringWritesWholeFramesRow : OpenClaim := { program := "ytnlmjeleocelgaadoor", sum := "5f0a5b4956268ba3e9762780d81293824fd790292f02c8c65389e49f55570482", func := "orangebox/orangeboxlaw3.RingWritesWholeFrames", spec := "ringWritesWholeFrames", unfollowed := true, recurses := true, named := ["orangebox/frame.syncs"], apart := false, laid := [("orangebox/frame.syncs", laid_orangebox_frame_syncs)] }
def RingWritesWholeFramesSaid : Prop := ringWritesWholeFramesRow.holds Tryd.pinned (OpenSpec.ofChange ringWritesWholeFramesSpec)

/-- ITS FALSE NEIGHBOUR: 'it returns false'. Refute it at one input. -/
def ringWritesWholeFramesWrong : ChangeSpec := { name := "ringWritesWholeFrames", fn := fun _ => fun
  | [d1, d2, d3] => { results := [.lit (.bool false)], args := [d1, d2, d3] }
  | _ => none }
def RingWritesWholeFramesWrongFalsely : Prop := ringWritesWholeFramesRow.holds Tryd.pinned (OpenSpec.ofChange ringWritesWholeFramesWrong)

/- THE SECOND FORM. 'bulk': how many values and letters a reading holds, each counted each time it is reached (what is shared counts as often as it is met; a slice's spare places count too). A statement '..UptoSaid' is the law's where the arguments, and the package variables that the reading takes, are together of bulk at most 1048576: NARROWER than '..Said'. Prove '..Said' where nothing that the law and all that it calls make is longer than what came in: it says more and counts as full. Else prove '..UptoSaid'. A law counts once. -/
mutual
def uptoBulk {H : Type} : DataW H → Nat
  | .lit (.string bytes) => bytes.length + 1
  | .lit _ => 1
  | .nil => 1
  | .ptr d => uptoBulk d + 1
  | .slice elems spare => uptoBulkAll elems + uptoBulkAll spare + 1
  | .agg parts => uptoBulkAll parts + 1
  | .iface _ d => uptoBulk d + 1
  | .map entries => uptoBulkEntries entries + 1
  | .held _ => 1
def uptoBulkAll {H : Type} : List (DataW H) → Nat
  | [] => 0
  | d :: r => uptoBulk d + uptoBulkAll r
def uptoBulkEntries {H : Type} : List (Lit × DataW H) → Nat
  | [] => 0
  | x :: r => uptoBulkEntry x + uptoBulkEntries r
def uptoBulkEntry {H : Type} : Lit × DataW H → Nat
  | (.string bytes, d) => bytes.length + uptoBulk d + 1
  | (_, d) => uptoBulk d + 1
 end
def uptoSmall : (H : Type) → List (DataW H) → Bool := fun _ ds => decide (uptoBulkAll ds ≤ 1048576)
def OpenSpec.upto (s : _root_.Go.ChangeSpec) : _root_.Go.OpenSpec := { _root_.Go.OpenSpec.ofChange s with cond := some uptoSmall }

/-- 'orangeboxlaw3.RingTargetsMatchSpec', WHERE WHAT IT READS IS OF BULK AT MOST 1048576: true; the input reads as it did. -/
def ringTargetsMatchSpecUptoRow : OpenClaim := { program := "ytnlmjeleocelgaadoor", sum := "5f0a5b4956268ba3e9762780d81293824fd790292f02c8c65389e49f55570482", func := "orangebox/orangeboxlaw3.RingTargetsMatchSpec", spec := "ringTargetsMatchSpec", unfollowed := true, recurses := true, named := ["orangebox/frame.syncs"], apart := false, laid := [("orangebox/frame.syncs", laid_orangebox_frame_syncs)], narrowed := true }
def RingTargetsMatchSpecUptoSaid : Prop := ringTargetsMatchSpecUptoRow.holds Tryd.pinned (OpenSpec.upto ringTargetsMatchSpecSpec)

/-- 'orangeboxlaw3.RingBitsGoOneWay', WHERE WHAT IT READS IS OF BULK AT MOST 1048576: true; the input reads as it did. -/
def ringBitsGoOneWayUptoRow : OpenClaim := { program := "ytnlmjeleocelgaadoor", sum := "5f0a5b4956268ba3e9762780d81293824fd790292f02c8c65389e49f55570482", func := "orangebox/orangeboxlaw3.RingBitsGoOneWay", spec := "ringBitsGoOneWay", unfollowed := true, recurses := true, named := ["orangebox/frame.syncs"], apart := false, laid := [("orangebox/frame.syncs", laid_orangebox_frame_syncs)], narrowed := true }
def RingBitsGoOneWayUptoSaid : Prop := ringBitsGoOneWayUptoRow.holds Tryd.pinned (OpenSpec.upto ringBitsGoOneWaySpec)

/-- 'orangeboxlaw3.RingWritesWholeFrames', WHERE WHAT IT READS IS OF BULK AT MOST 1048576: true; the input reads as it did. -/
def ringWritesWholeFramesUptoRow : OpenClaim := { program := "ytnlmjeleocelgaadoor", sum := "5f0a5b4956268ba3e9762780d81293824fd790292f02c8c65389e49f55570482", func := "orangebox/orangeboxlaw3.RingWritesWholeFrames", spec := "ringWritesWholeFrames", unfollowed := true, recurses := true, named := ["orangebox/frame.syncs"], apart := false, laid := [("orangebox/frame.syncs", laid_orangebox_frame_syncs)], narrowed := true }
def RingWritesWholeFramesUptoSaid : Prop := ringWritesWholeFramesUptoRow.holds Tryd.pinned (OpenSpec.upto ringWritesWholeFramesSpec)

end Rows
end Go.Proofs.YtnlmjeleocelgaaDoor

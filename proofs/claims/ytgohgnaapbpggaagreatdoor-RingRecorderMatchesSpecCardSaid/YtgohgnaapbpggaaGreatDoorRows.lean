/-
  NARROWER THAN 'FOR EVERY INPUT', by the rows' own cells (each row's printed sentence says how): RingPutMatchesSpec: laid · RingRecorderMatchesSpec: laid.
  DERIVED. THE GIVEN ROWS OF THIS SEAT. 2 by the template 'for every input the law returns true; each argument reads behind the call as it read before'; 0 by the template 'total and deterministic' (their statements: YtgohgnaapbpggaaGreatDoorTotals.lean).
  GIVEN WITH THE SEED: the statements are not yours to turn. If you find one false, say at which input.
  Laid BY PROGRAM, IN A SANDBOX (cutbox-rows.mjs): the forced cells as the released guide's own fill.sh prints them over the translation 4f009b891526b987… (all of the seat's roots in one cut). By AI agents, Wed Nov 11 2026. No macro, syntax, notation, axiom, sorry.
-/
import Derived.Test.YtgohgnaapbpggaaGreatDoorChecked
import GoSem.Claim
import GoSem.ClaimJoined
import GoSem.ClaimMapViews
import Derived.JoinedTies
import Derived.KernelRfl
namespace Go.Proofs.YtgohgnaapbpggaaGreatDoor
/- THE CELL 'sum', in the pinned program and in every row, IS THE sha256 OF THE DUMP (.gsa) THAT YtgohgnaapbpggaaGreatDoorProg.lean LOADS. Nothing in Lean hashes anything: it is a label: what it is worth is what the hold of that sum in a sandbox is worth. -/
noncomputable def Tryz.pinned : Pinned := { name := "ytgohgnaapbpggaagreatdoor", sum := "4f009b891526b9872d4c0c2d8d60c53352df5f055243e189a9ec3618be01d9be", checked := Tryz.checked }
namespace Rows
def none {H : Type} : Left H := { results := [], args := [] }

/- WHAT THE LISTED PACKAGE-LEVEL VARIABLES READ AS WHEN THE CALL BEGINS. Each datum BY PROGRAM (the guide's laid-datum.mjs) off the statement by which the dump's own 'gosem.cut.vars' lays the variable. In a bare row this is a premise. The card (YtgohgnaapbpggaaGreatDoorCards.lean) ties it to the program's text. -/
def laid_orangebox_frame_syncs {H : Type} : DataW H := .agg [.lit (.int .u16 583), .lit (.int .u16 1464), .lit (.int .u16 2631), .lit (.int .u16 3512)]

/-- 'orangeboxlaw3.RingPutMatchesSpec': WHATEVER THE INPUT: true; the input reads as it did. -/
def ringPutMatchesSpecSpec : ChangeSpec := { name := "ringPutMatchesSpec", fn := fun _ => fun
  | [d1, d2, d3, d4] => { results := [.lit (.bool true)], args := [d1, d2, d3, d4] }
  | _ => none }
def ringPutMatchesSpecRow : OpenClaim := { program := "ytgohgnaapbpggaagreatdoor", sum := "4f009b891526b9872d4c0c2d8d60c53352df5f055243e189a9ec3618be01d9be", func := "orangebox/orangeboxlaw3.RingPutMatchesSpec", spec := "ringPutMatchesSpec", unfollowed := true, recurses := true, named := ["orangebox/frame.syncs"], apart := false, laid := [("orangebox/frame.syncs", laid_orangebox_frame_syncs)] }
def RingPutMatchesSpecSaid : Prop := ringPutMatchesSpecRow.holds Tryz.pinned (OpenSpec.ofChange ringPutMatchesSpecSpec)

/-- ITS FALSE NEIGHBOUR: 'it returns false'. Refute it at one input. -/
def ringPutMatchesSpecWrong : ChangeSpec := { name := "ringPutMatchesSpec", fn := fun _ => fun
  | [d1, d2, d3, d4] => { results := [.lit (.bool false)], args := [d1, d2, d3, d4] }
  | _ => none }
def RingPutMatchesSpecWrongFalsely : Prop := ringPutMatchesSpecRow.holds Tryz.pinned (OpenSpec.ofChange ringPutMatchesSpecWrong)

/-- 'orangeboxlaw3.RingRecorderMatchesSpec': WHATEVER THE INPUT: true; the input reads as it did. -/
def ringRecorderMatchesSpecSpec : ChangeSpec := { name := "ringRecorderMatchesSpec", fn := fun _ => fun
  | [d1, d2, d3] => { results := [.lit (.bool true)], args := [d1, d2, d3] }
  | _ => none }
def ringRecorderMatchesSpecRow : OpenClaim := { program := "ytgohgnaapbpggaagreatdoor", sum := "4f009b891526b9872d4c0c2d8d60c53352df5f055243e189a9ec3618be01d9be", func := "orangebox/orangeboxlaw3.RingRecorderMatchesSpec", spec := "ringRecorderMatchesSpec", unfollowed := true, recurses := true, named := ["orangebox/frame.syncs"], apart := false, laid := [("orangebox/frame.syncs", laid_orangebox_frame_syncs)] }
def RingRecorderMatchesSpecSaid : Prop := ringRecorderMatchesSpecRow.holds Tryz.pinned (OpenSpec.ofChange ringRecorderMatchesSpecSpec)

/-- ITS FALSE NEIGHBOUR: 'it returns false'. Refute it at one input. -/
def ringRecorderMatchesSpecWrong : ChangeSpec := { name := "ringRecorderMatchesSpec", fn := fun _ => fun
  | [d1, d2, d3] => { results := [.lit (.bool false)], args := [d1, d2, d3] }
  | _ => none }
def RingRecorderMatchesSpecWrongFalsely : Prop := ringRecorderMatchesSpecRow.holds Tryz.pinned (OpenSpec.ofChange ringRecorderMatchesSpecWrong)

/- THE SECOND FORM. 'bulk': how many values and letters a reading holds, each counted each time it is reached (what is shared counts as often as it is met; a slice's spare places count too). A statement '..UptoSaid' is the law's where the arguments, and the package variables that the reading takes, are together of bulk at most 1048576: NARROWER than '..Said'. Prove '..Said' where nothing that the law and all that it calls make is longer than what came in: it says more and counts as full. Else prove '..UptoSaid'. A law counts once. -/
mutual
def uptoBulk {H : Type} : DataW H → Nat
  | .lit (.string bytes) => bytes.length + 1
  | .lit _ => 1
  | .nil => 1
  | .ptr d => uptoBulk d + 1
  | .slice elems spare => uptoBulkAll elems + uptoBulkAll spare + 1
  | .agg parts => uptoBulkAll parts + 1
  | .iface _ d => uptoBulk d + 1
  | .map entries => uptoBulkEntries entries + 1
  | .held _ => 1
def uptoBulkAll {H : Type} : List (DataW H) → Nat
  | [] => 0
  | d :: r => uptoBulk d + uptoBulkAll r
def uptoBulkEntries {H : Type} : List (Lit × DataW H) → Nat
  | [] => 0
  | x :: r => uptoBulkEntry x + uptoBulkEntries r
def uptoBulkEntry {H : Type} : Lit × DataW H → Nat
  | (.string bytes, d) => bytes.length + uptoBulk d + 1
  | (_, d) => uptoBulk d + 1
 end
def uptoSmall : (H : Type) → List (DataW H) → Bool := fun _ ds => decide (uptoBulkAll ds ≤ 1048576)
def OpenSpec.upto (s : _root_.Go.ChangeSpec) : _root_.Go.OpenSpec := { _root_.Go.OpenSpec.ofChange s with cond := some uptoSmall }

/-- 'orangeboxlaw3.RingPutMatchesSpec', WHERE WHAT IT READS IS OF BULK AT MOST 1048576: true; the input reads as it did. -/
def ringPutMatchesSpecUptoRow : OpenClaim := { program := "ytgohgnaapbpggaagreatdoor", sum := "4f009b891526b9872d4c0c2d8d60c53352df5f055243e189a9ec3618be01d9be", func := "orangebox/orangeboxlaw3.RingPutMatchesSpec", spec := "ringPutMatchesSpec", unfollowed := true, recurses := true, named := ["orangebox/frame.syncs"], apart := false, laid := [("orangebox/frame.syncs", laid_orangebox_frame_syncs)], narrowed := true }
def RingPutMatchesSpecUptoSaid : Prop := ringPutMatchesSpecUptoRow.holds Tryz.pinned (OpenSpec.upto ringPutMatchesSpecSpec)

/-- 'orangeboxlaw3.RingRecorderMatchesSpec', WHERE WHAT IT READS IS OF BULK AT MOST 1048576: true; the input reads as it did. -/
def ringRecorderMatchesSpecUptoRow : OpenClaim := { program := "ytgohgnaapbpggaagreatdoor", sum := "4f009b891526b9872d4c0c2d8d60c53352df5f055243e189a9ec3618be01d9be", func := "orangebox/orangeboxlaw3.RingRecorderMatchesSpec", spec := "ringRecorderMatchesSpec", unfollowed := true, recurses := true, named := ["orangebox/frame.syncs"], apart := false, laid := [("orangebox/frame.syncs", laid_orangebox_frame_syncs)], narrowed := true }
def RingRecorderMatchesSpecUptoSaid : Prop := ringRecorderMatchesSpecUptoRow.holds Tryz.pinned (OpenSpec.upto ringRecorderMatchesSpecSpec)

end Rows
end Go.Proofs.YtgohgnaapbpggaaGreatDoor

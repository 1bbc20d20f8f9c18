/-
  DERIVED. GIVEN WITH THE SEED: THE CARDS: each row of YtpfdelgflppgnabDoorRows.lean that lists a variable, with what it lists TIED to the program's text (the seventh form; the later family's looks); each row that meets fmt, with fmt's text TOLD by the authors' own Lean function (tested against real Go, not proved from fmt's source: count such statements apart). THE CARD IS WHAT COUNTS. Prove the row's statement (the work); the ties are given (YtpfdelgflppgnabDoorTie.lean); close each card by the builder's one call (the guide's Derived/Test/ToyasCard.lean, 'card_holds'). Laid BY PROGRAM, IN A SANDBOX (cutbox-door.mjs). By AI agents, Wed Nov 11 2026. No macro, syntax, notation, axiom, sorry.
-/
import Derived.Test.YtpfdelgflppgnabDoorRows
import GoSem.ClaimSeven
namespace Go.Proofs.YtpfdelgflppgnabDoor
namespace Rows

/-- THE TIED CARD OF 'orangeboxlaw2.LayoutBuildMatchesSpec'. -/
def layoutBuildMatchesSpecCard : Claim7 := { stood := { row := layoutBuildMatchesSpecRow, standIns := [], harness := (true, "6d84839d31636a1217e9dccaf33c0ed29f68a8bc9268e0317346d23c1ad634d5"), looks := false }, kinds := [], alts := [], laidByText := true, laidKinds := [.data], laidTests := true, laidLooks := .later }
def LayoutBuildMatchesSpecCardSaid : Prop := Claim7.holds Tryd.pinned (.plain (OpenSpec.ofChange layoutBuildMatchesSpecSpec)) layoutBuildMatchesSpecCard

/-- THE SECOND FORM's CARD OF 'orangeboxlaw2.LayoutBuildMatchesSpec'. -/
def layoutBuildMatchesSpecUptoCard : Claim7 := { stood := { row := layoutBuildMatchesSpecUptoRow, standIns := [], harness := (true, "6d84839d31636a1217e9dccaf33c0ed29f68a8bc9268e0317346d23c1ad634d5"), looks := false }, kinds := [], alts := [], laidByText := true, laidKinds := [.data], laidTests := true, laidLooks := .later }
def LayoutBuildMatchesSpecUptoCardSaid : Prop := Claim7.holds Tryd.pinned (.plain (OpenSpec.upto layoutBuildMatchesSpecSpec)) layoutBuildMatchesSpecUptoCard
end Rows
end Go.Proofs.YtpfdelgflppgnabDoor

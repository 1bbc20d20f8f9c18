/-
  DERIVED. GIVEN WITH THE SEED: THE CARDS: each row of YtacmhbfmedpkhaaGreatDoorRows.lean that lists a variable, with what it lists TIED to the program's text (the seventh form; the later family's looks); each row that meets fmt, with fmt's text TOLD by the authors' own Lean function (tested against real Go, not proved from fmt's source: count such statements apart). THE CARD IS WHAT COUNTS. Prove the row's statement (the work); the ties are given (YtacmhbfmedpkhaaGreatDoorTie.lean); close each card by the builder's one call (the guide's Derived/Test/ToyasCard.lean, 'card_holds'). Laid BY PROGRAM, IN A SANDBOX (cutbox-door.mjs). By AI agents, Wed Nov 11 2026. No macro, syntax, notation, axiom, sorry.
-/
import Derived.Test.YtacmhbfmedpkhaaGreatDoorRows
import GoSem.ClaimSeven
namespace Go.Proofs.YtacmhbfmedpkhaaGreatDoor
namespace Rows

/-- THE TIED CARD OF 'orangeboxlaw5.SeriesFromRestsMatchesSpec'. -/
def seriesFromRestsMatchesSpecCard : Claim7 := { stood := { row := seriesFromRestsMatchesSpecRow, standIns := [], harness := (true, "9ae1e1ec89623f531d7265f2dafbef7eafba1f216944e9e743ea2c0be22ba04b"), looks := false }, kinds := [], alts := [], laidByText := true, laidKinds := [.data, .data, .data, .data], laidTests := true, laidLooks := .later }
def SeriesFromRestsMatchesSpecCardSaid : Prop := Claim7.holds Tryz.pinned (.plain (OpenSpec.ofChange seriesFromRestsMatchesSpecSpec)) seriesFromRestsMatchesSpecCard

/-- THE SECOND FORM's CARD OF 'orangeboxlaw5.SeriesFromRestsMatchesSpec'. -/
def seriesFromRestsMatchesSpecUptoCard : Claim7 := { stood := { row := seriesFromRestsMatchesSpecUptoRow, standIns := [], harness := (true, "9ae1e1ec89623f531d7265f2dafbef7eafba1f216944e9e743ea2c0be22ba04b"), looks := false }, kinds := [], alts := [], laidByText := true, laidKinds := [.data, .data, .data, .data], laidTests := true, laidLooks := .later }
def SeriesFromRestsMatchesSpecUptoCardSaid : Prop := Claim7.holds Tryz.pinned (.plain (OpenSpec.upto seriesFromRestsMatchesSpecSpec)) seriesFromRestsMatchesSpecUptoCard
end Rows
end Go.Proofs.YtacmhbfmedpkhaaGreatDoor

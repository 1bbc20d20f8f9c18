/-
  DERIVED. GIVEN WITH THE SEED: THE CARDS: each row of YteljlmpmdplgmaaGreatDoorRows.lean that lists a variable, with what it lists TIED to the program's text (the seventh form; the later family's looks); each row that meets fmt, with fmt's text TOLD by the authors' own Lean function (tested against real Go, not proved from fmt's source: count such statements apart). THE CARD IS WHAT COUNTS. Prove the row's statement (the work); the ties are given (YteljlmpmdplgmaaGreatDoorTie.lean); close each card by the builder's one call (the guide's Derived/Test/ToyasCard.lean, 'card_holds'). Laid BY PROGRAM, IN A SANDBOX (cutbox-door.mjs). By AI agents, Wed Nov 11 2026. No macro, syntax, notation, axiom, sorry.
-/
import Derived.Test.YteljlmpmdplgmaaGreatDoorRows
import GoSem.ClaimSeven
namespace Go.Proofs.YteljlmpmdplgmaaGreatDoor
namespace Rows

/-- THE TIED CARD OF 'orangeboxtop.TopNothingIsMadeUp'. -/
def topNothingIsMadeUpCard : Claim7 := { stood := { row := topNothingIsMadeUpRow, standIns := [], harness := (true, "de52acd5367a28abac33154b0f4d64f5a64b32dc5553327b7afeee76637a3951"), looks := false }, kinds := [], alts := [], laidByText := true, laidKinds := [.data], laidTests := true, laidLooks := .later }
def TopNothingIsMadeUpCardSaid : Prop := Claim7.holds Tryz.pinned (.plain (OpenSpec.ofChange topNothingIsMadeUpSpec)) topNothingIsMadeUpCard

/-- THE SECOND FORM's CARD OF 'orangeboxtop.TopNothingIsMadeUp'. -/
def topNothingIsMadeUpUptoCard : Claim7 := { stood := { row := topNothingIsMadeUpUptoRow, standIns := [], harness := (true, "de52acd5367a28abac33154b0f4d64f5a64b32dc5553327b7afeee76637a3951"), looks := false }, kinds := [], alts := [], laidByText := true, laidKinds := [.data], laidTests := true, laidLooks := .later }
def TopNothingIsMadeUpUptoCardSaid : Prop := Claim7.holds Tryz.pinned (.plain (OpenSpec.upto topNothingIsMadeUpSpec)) topNothingIsMadeUpUptoCard
end Rows
end Go.Proofs.YteljlmpmdplgmaaGreatDoor

/-
  DERIVED. GIVEN WITH THE SEED: THE CARDS: each row of YtjfoenlooacoiabGreatDoorRows.lean that lists a variable, with what it lists TIED to the program's text (the seventh form; the later family's looks); each row that meets fmt, with fmt's text TOLD by the authors' own Lean function (tested against real Go, not proved from fmt's source: count such statements apart). THE CARD IS WHAT COUNTS. Prove the row's statement (the work); the ties are given (YtjfoenlooacoiabGreatDoorTie.lean); close each card by the builder's one call (the guide's Derived/Test/ToyasCard.lean, 'card_holds'). Laid BY PROGRAM, IN A SANDBOX (cutbox-door.mjs). By AI agents, Wed Nov 11 2026. No macro, syntax, notation, axiom, sorry.
-/
import Derived.Test.YtjfoenlooacoiabGreatDoorRows
import GoSem.ClaimSeven
namespace Go.Proofs.YtjfoenlooacoiabGreatDoor
namespace Rows

/-- THE TIED CARD OF 'orangeboxtop.TopPowerFailsAnywhere'. -/
def topPowerFailsAnywhereCard : Claim7 := { stood := { row := topPowerFailsAnywhereRow, standIns := [], harness := (true, "07a0a529fef257b583dccf43c6829fc85f1b4a607af16dfa56a0d6e1ca792019"), looks := false }, kinds := [], alts := [], laidByText := true, laidKinds := [.data], laidTests := true, laidLooks := .later }
def TopPowerFailsAnywhereCardSaid : Prop := Claim7.holds Tryz.pinned (.plain (OpenSpec.ofChange topPowerFailsAnywhereSpec)) topPowerFailsAnywhereCard

/-- THE SECOND FORM's CARD OF 'orangeboxtop.TopPowerFailsAnywhere'. -/
def topPowerFailsAnywhereUptoCard : Claim7 := { stood := { row := topPowerFailsAnywhereUptoRow, standIns := [], harness := (true, "07a0a529fef257b583dccf43c6829fc85f1b4a607af16dfa56a0d6e1ca792019"), looks := false }, kinds := [], alts := [], laidByText := true, laidKinds := [.data], laidTests := true, laidLooks := .later }
def TopPowerFailsAnywhereUptoCardSaid : Prop := Claim7.holds Tryz.pinned (.plain (OpenSpec.upto topPowerFailsAnywhereSpec)) topPowerFailsAnywhereUptoCard
end Rows
end Go.Proofs.YtjfoenlooacoiabGreatDoor

/-
  DERIVED. GIVEN WITH THE SEED: THE CARDS: each row of YtnlmjeleocelgaaGreatDoorRows.lean that lists a variable, with what it lists TIED to the program's text (the seventh form; the later family's looks); each row that meets fmt, with fmt's text TOLD by the authors' own Lean function (tested against real Go, not proved from fmt's source: count such statements apart). THE CARD IS WHAT COUNTS. Prove the row's statement (the work); the ties are given (YtnlmjeleocelgaaGreatDoorTie.lean); close each card by the builder's one call (the guide's Derived/Test/ToyasCard.lean, 'card_holds'). Laid BY PROGRAM, IN A SANDBOX (cutbox-door.mjs). By AI agents, Wed Nov 11 2026. No macro, syntax, notation, axiom, sorry.
-/
import Derived.Test.YtnlmjeleocelgaaGreatDoorRows
import GoSem.ClaimSeven
namespace Go.Proofs.YtnlmjeleocelgaaGreatDoor
namespace Rows

/-- THE TIED CARD OF 'orangeboxlaw3.RingNewMatchesSpec'. -/
def ringNewMatchesSpecCard : Claim7 := { stood := { row := ringNewMatchesSpecRow, standIns := [], harness := (true, "20bb7885f2a88c615c83784aff9a3556e8907e979705a4bcd13f7f64501a6e82"), looks := false }, kinds := [], alts := [], laidByText := true, laidKinds := [.data], laidTests := true, laidLooks := .later }
def RingNewMatchesSpecCardSaid : Prop := Claim7.holds Tryz.pinned (.plain (OpenSpec.ofChange ringNewMatchesSpecSpec)) ringNewMatchesSpecCard

/-- THE TIED CARD OF 'orangeboxlaw3.RingMemoriesAreCopies'. -/
def ringMemoriesAreCopiesCard : Claim7 := { stood := { row := ringMemoriesAreCopiesRow, standIns := [], harness := (true, "20bb7885f2a88c615c83784aff9a3556e8907e979705a4bcd13f7f64501a6e82"), looks := false }, kinds := [], alts := [], laidByText := true, laidKinds := [.data], laidTests := true, laidLooks := .later }
def RingMemoriesAreCopiesCardSaid : Prop := Claim7.holds Tryz.pinned (.plain (OpenSpec.ofChange ringMemoriesAreCopiesSpec)) ringMemoriesAreCopiesCard

/-- THE TIED CARD OF 'orangeboxlaw3.RingPutMatchesSpec'. -/
def ringPutMatchesSpecCard : Claim7 := { stood := { row := ringPutMatchesSpecRow, standIns := [], harness := (true, "20bb7885f2a88c615c83784aff9a3556e8907e979705a4bcd13f7f64501a6e82"), looks := false }, kinds := [], alts := [], laidByText := true, laidKinds := [.data], laidTests := true, laidLooks := .later }
def RingPutMatchesSpecCardSaid : Prop := Claim7.holds Tryz.pinned (.plain (OpenSpec.ofChange ringPutMatchesSpecSpec)) ringPutMatchesSpecCard

/-- THE TIED CARD OF 'orangeboxlaw3.RingRecoverMatchesSpec'. -/
def ringRecoverMatchesSpecCard : Claim7 := { stood := { row := ringRecoverMatchesSpecRow, standIns := [], harness := (true, "20bb7885f2a88c615c83784aff9a3556e8907e979705a4bcd13f7f64501a6e82"), looks := false }, kinds := [], alts := [], laidByText := true, laidKinds := [.data], laidTests := true, laidLooks := .later }
def RingRecoverMatchesSpecCardSaid : Prop := Claim7.holds Tryz.pinned (.plain (OpenSpec.ofChange ringRecoverMatchesSpecSpec)) ringRecoverMatchesSpecCard

/-- THE TIED CARD OF 'orangeboxlaw3.RingSectorMatchesSpec'. -/
def ringSectorMatchesSpecCard : Claim7 := { stood := { row := ringSectorMatchesSpecRow, standIns := [], harness := (true, "20bb7885f2a88c615c83784aff9a3556e8907e979705a4bcd13f7f64501a6e82"), looks := false }, kinds := [], alts := [], laidByText := true, laidKinds := [.data], laidTests := true, laidLooks := .later }
def RingSectorMatchesSpecCardSaid : Prop := Claim7.holds Tryz.pinned (.plain (OpenSpec.ofChange ringSectorMatchesSpecSpec)) ringSectorMatchesSpecCard

/-- THE TIED CARD OF 'orangeboxlaw3.RingCheckMatchesSpec'. -/
def ringCheckMatchesSpecCard : Claim7 := { stood := { row := ringCheckMatchesSpecRow, standIns := [], harness := (true, "20bb7885f2a88c615c83784aff9a3556e8907e979705a4bcd13f7f64501a6e82"), looks := false }, kinds := [], alts := [], laidByText := true, laidKinds := [.data], laidTests := true, laidLooks := .later }
def RingCheckMatchesSpecCardSaid : Prop := Claim7.holds Tryz.pinned (.plain (OpenSpec.ofChange ringCheckMatchesSpecSpec)) ringCheckMatchesSpecCard

/-- THE TIED CARD OF 'orangeboxlaw3.RingRecorderMatchesSpec'. -/
def ringRecorderMatchesSpecCard : Claim7 := { stood := { row := ringRecorderMatchesSpecRow, standIns := [], harness := (true, "20bb7885f2a88c615c83784aff9a3556e8907e979705a4bcd13f7f64501a6e82"), looks := false }, kinds := [], alts := [], laidByText := true, laidKinds := [.data], laidTests := true, laidLooks := .later }
def RingRecorderMatchesSpecCardSaid : Prop := Claim7.holds Tryz.pinned (.plain (OpenSpec.ofChange ringRecorderMatchesSpecSpec)) ringRecorderMatchesSpecCard

/-- THE SECOND FORM's CARD OF 'orangeboxlaw3.RingNewMatchesSpec'. -/
def ringNewMatchesSpecUptoCard : Claim7 := { stood := { row := ringNewMatchesSpecUptoRow, standIns := [], harness := (true, "20bb7885f2a88c615c83784aff9a3556e8907e979705a4bcd13f7f64501a6e82"), looks := false }, kinds := [], alts := [], laidByText := true, laidKinds := [.data], laidTests := true, laidLooks := .later }
def RingNewMatchesSpecUptoCardSaid : Prop := Claim7.holds Tryz.pinned (.plain (OpenSpec.upto ringNewMatchesSpecSpec)) ringNewMatchesSpecUptoCard

/-- THE SECOND FORM's CARD OF 'orangeboxlaw3.RingMemoriesAreCopies'. -/
def ringMemoriesAreCopiesUptoCard : Claim7 := { stood := { row := ringMemoriesAreCopiesUptoRow, standIns := [], harness := (true, "20bb7885f2a88c615c83784aff9a3556e8907e979705a4bcd13f7f64501a6e82"), looks := false }, kinds := [], alts := [], laidByText := true, laidKinds := [.data], laidTests := true, laidLooks := .later }
def RingMemoriesAreCopiesUptoCardSaid : Prop := Claim7.holds Tryz.pinned (.plain (OpenSpec.upto ringMemoriesAreCopiesSpec)) ringMemoriesAreCopiesUptoCard

/-- THE SECOND FORM's CARD OF 'orangeboxlaw3.RingPutMatchesSpec'. -/
def ringPutMatchesSpecUptoCard : Claim7 := { stood := { row := ringPutMatchesSpecUptoRow, standIns := [], harness := (true, "20bb7885f2a88c615c83784aff9a3556e8907e979705a4bcd13f7f64501a6e82"), looks := false }, kinds := [], alts := [], laidByText := true, laidKinds := [.data], laidTests := true, laidLooks := .later }
def RingPutMatchesSpecUptoCardSaid : Prop := Claim7.holds Tryz.pinned (.plain (OpenSpec.upto ringPutMatchesSpecSpec)) ringPutMatchesSpecUptoCard

/-- THE SECOND FORM's CARD OF 'orangeboxlaw3.RingRecoverMatchesSpec'. -/
def ringRecoverMatchesSpecUptoCard : Claim7 := { stood := { row := ringRecoverMatchesSpecUptoRow, standIns := [], harness := (true, "20bb7885f2a88c615c83784aff9a3556e8907e979705a4bcd13f7f64501a6e82"), looks := false }, kinds := [], alts := [], laidByText := true, laidKinds := [.data], laidTests := true, laidLooks := .later }
def RingRecoverMatchesSpecUptoCardSaid : Prop := Claim7.holds Tryz.pinned (.plain (OpenSpec.upto ringRecoverMatchesSpecSpec)) ringRecoverMatchesSpecUptoCard

/-- THE SECOND FORM's CARD OF 'orangeboxlaw3.RingSectorMatchesSpec'. -/
def ringSectorMatchesSpecUptoCard : Claim7 := { stood := { row := ringSectorMatchesSpecUptoRow, standIns := [], harness := (true, "20bb7885f2a88c615c83784aff9a3556e8907e979705a4bcd13f7f64501a6e82"), looks := false }, kinds := [], alts := [], laidByText := true, laidKinds := [.data], laidTests := true, laidLooks := .later }
def RingSectorMatchesSpecUptoCardSaid : Prop := Claim7.holds Tryz.pinned (.plain (OpenSpec.upto ringSectorMatchesSpecSpec)) ringSectorMatchesSpecUptoCard

/-- THE SECOND FORM's CARD OF 'orangeboxlaw3.RingCheckMatchesSpec'. -/
def ringCheckMatchesSpecUptoCard : Claim7 := { stood := { row := ringCheckMatchesSpecUptoRow, standIns := [], harness := (true, "20bb7885f2a88c615c83784aff9a3556e8907e979705a4bcd13f7f64501a6e82"), looks := false }, kinds := [], alts := [], laidByText := true, laidKinds := [.data], laidTests := true, laidLooks := .later }
def RingCheckMatchesSpecUptoCardSaid : Prop := Claim7.holds Tryz.pinned (.plain (OpenSpec.upto ringCheckMatchesSpecSpec)) ringCheckMatchesSpecUptoCard

/-- THE SECOND FORM's CARD OF 'orangeboxlaw3.RingRecorderMatchesSpec'. -/
def ringRecorderMatchesSpecUptoCard : Claim7 := { stood := { row := ringRecorderMatchesSpecUptoRow, standIns := [], harness := (true, "20bb7885f2a88c615c83784aff9a3556e8907e979705a4bcd13f7f64501a6e82"), looks := false }, kinds := [], alts := [], laidByText := true, laidKinds := [.data], laidTests := true, laidLooks := .later }
def RingRecorderMatchesSpecUptoCardSaid : Prop := Claim7.holds Tryz.pinned (.plain (OpenSpec.upto ringRecorderMatchesSpecSpec)) ringRecorderMatchesSpecUptoCard
end Rows
end Go.Proofs.YtnlmjeleocelgaaGreatDoor

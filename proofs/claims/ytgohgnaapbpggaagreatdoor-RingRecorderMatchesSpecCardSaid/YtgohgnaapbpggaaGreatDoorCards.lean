/-
  DERIVED. GIVEN WITH THE SEED: THE CARDS: each row of YtgohgnaapbpggaaGreatDoorRows.lean that lists a variable, with what it lists TIED to the program's text (the seventh form; the later family's looks); each row that meets fmt, with fmt's text TOLD by the authors' own Lean function (tested against real Go, not proved from fmt's source: count such statements apart). THE CARD IS WHAT COUNTS. Prove the row's statement (the work); the ties are given (YtgohgnaapbpggaaGreatDoorTie.lean); close each card by the builder's one call (the guide's Derived/Test/ToyasCard.lean, 'card_holds'). Laid BY PROGRAM, IN A SANDBOX (cutbox-door.mjs). By AI agents, Wed Nov 11 2026. No macro, syntax, notation, axiom, sorry.
-/
import Derived.Test.YtgohgnaapbpggaaGreatDoorRows
import GoSem.ClaimSeven
namespace Go.Proofs.YtgohgnaapbpggaaGreatDoor
namespace Rows

/-- THE TIED CARD OF 'orangeboxlaw3.RingPutMatchesSpec'. -/
def ringPutMatchesSpecCard : Claim7 := { stood := { row := ringPutMatchesSpecRow, standIns := [], harness := (true, "f0ff4ecd0f61754ca73b55d302ed1c1aa42f92dba8fd2aaf74f6d8355d3abadd"), looks := false }, kinds := [], alts := [], laidByText := true, laidKinds := [.data], laidTests := true, laidLooks := .later }
def RingPutMatchesSpecCardSaid : Prop := Claim7.holds Tryz.pinned (.plain (OpenSpec.ofChange ringPutMatchesSpecSpec)) ringPutMatchesSpecCard

/-- THE TIED CARD OF 'orangeboxlaw3.RingRecorderMatchesSpec'. -/
def ringRecorderMatchesSpecCard : Claim7 := { stood := { row := ringRecorderMatchesSpecRow, standIns := [], harness := (true, "f0ff4ecd0f61754ca73b55d302ed1c1aa42f92dba8fd2aaf74f6d8355d3abadd"), looks := false }, kinds := [], alts := [], laidByText := true, laidKinds := [.data], laidTests := true, laidLooks := .later }
def RingRecorderMatchesSpecCardSaid : Prop := Claim7.holds Tryz.pinned (.plain (OpenSpec.ofChange ringRecorderMatchesSpecSpec)) ringRecorderMatchesSpecCard

/-- THE SECOND FORM's CARD OF 'orangeboxlaw3.RingPutMatchesSpec'. -/
def ringPutMatchesSpecUptoCard : Claim7 := { stood := { row := ringPutMatchesSpecUptoRow, standIns := [], harness := (true, "f0ff4ecd0f61754ca73b55d302ed1c1aa42f92dba8fd2aaf74f6d8355d3abadd"), looks := false }, kinds := [], alts := [], laidByText := true, laidKinds := [.data], laidTests := true, laidLooks := .later }
def RingPutMatchesSpecUptoCardSaid : Prop := Claim7.holds Tryz.pinned (.plain (OpenSpec.upto ringPutMatchesSpecSpec)) ringPutMatchesSpecUptoCard

/-- THE SECOND FORM's CARD OF 'orangeboxlaw3.RingRecorderMatchesSpec'. -/
def ringRecorderMatchesSpecUptoCard : Claim7 := { stood := { row := ringRecorderMatchesSpecUptoRow, standIns := [], harness := (true, "f0ff4ecd0f61754ca73b55d302ed1c1aa42f92dba8fd2aaf74f6d8355d3abadd"), looks := false }, kinds := [], alts := [], laidByText := true, laidKinds := [.data], laidTests := true, laidLooks := .later }
def RingRecorderMatchesSpecUptoCardSaid : Prop := Claim7.holds Tryz.pinned (.plain (OpenSpec.upto ringRecorderMatchesSpecSpec)) ringRecorderMatchesSpecUptoCard
end Rows
end Go.Proofs.YtgohgnaapbpggaaGreatDoor

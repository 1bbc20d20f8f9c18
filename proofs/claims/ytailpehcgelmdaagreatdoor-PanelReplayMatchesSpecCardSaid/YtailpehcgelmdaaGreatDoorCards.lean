/-
  DERIVED. GIVEN WITH THE SEED: THE CARDS: each row of YtailpehcgelmdaaGreatDoorRows.lean that lists a variable, with what it lists TIED to the program's text (the seventh form; the later family's looks); each row that meets fmt, with fmt's text TOLD by the authors' own Lean function (tested against real Go, not proved from fmt's source: count such statements apart). THE CARD IS WHAT COUNTS. Prove the row's statement (the work); the ties are given (YtailpehcgelmdaaGreatDoorTie.lean); close each card by the builder's one call (the guide's Derived/Test/ToyasCard.lean, 'card_holds'). Laid BY PROGRAM, IN A SANDBOX (cutbox-door.mjs). By AI agents, Wed Nov 11 2026. No macro, syntax, notation, axiom, sorry.
-/
import Derived.Test.YtailpehcgelmdaaGreatDoorRows
import GoSem.ClaimSeven
namespace Go.Proofs.YtailpehcgelmdaaGreatDoor
namespace Rows

/-- THE TIED CARD OF 'orangeboxtop.TopSeekIsPlay'. -/
def topSeekIsPlayCard : Claim7 := { stood := { row := topSeekIsPlayRow, standIns := [], harness := (true, "10bbcd980512fd4bbe9cef6f6022daf9684fab075cb5a22e5e8bc8d5771b2f21"), looks := false }, kinds := [], alts := [], laidByText := true, laidKinds := [.data, .data, .data, .data, .data, .pinned], laidTests := true, laidLooks := .later }
def TopSeekIsPlayCardSaid : Prop := Claim7.holds Tryz.pinned (.plain (OpenSpec.ofChange topSeekIsPlaySpec)) topSeekIsPlayCard

/-- THE TIED CARD OF 'orangeboxlaw8.PanelShowsSolidNumbers'. -/
def panelShowsSolidNumbersCard : Claim7 := { stood := { row := panelShowsSolidNumbersRow, standIns := [], harness := (true, "10bbcd980512fd4bbe9cef6f6022daf9684fab075cb5a22e5e8bc8d5771b2f21"), looks := false }, kinds := [], alts := [], laidByText := true, laidKinds := [.data, .data, .data, .data, .pinned], laidTests := true, laidLooks := .later }
def PanelShowsSolidNumbersCardSaid : Prop := Claim7.holds Tryz.pinned (.plain (OpenSpec.ofChange panelShowsSolidNumbersSpec)) panelShowsSolidNumbersCard

/-- THE TIED CARD OF 'orangeboxlaw8.PanelAdvanceMatchesSpec'. -/
def panelAdvanceMatchesSpecCard : Claim7 := { stood := { row := panelAdvanceMatchesSpecRow, standIns := [], harness := (true, "10bbcd980512fd4bbe9cef6f6022daf9684fab075cb5a22e5e8bc8d5771b2f21"), looks := false }, kinds := [], alts := [], laidByText := true, laidKinds := [.data, .data, .data, .data, .pinned], laidTests := true, laidLooks := .later }
def PanelAdvanceMatchesSpecCardSaid : Prop := Claim7.holds Tryz.pinned (.plain (OpenSpec.ofChange panelAdvanceMatchesSpecSpec)) panelAdvanceMatchesSpecCard

/-- THE TIED CARD OF 'orangeboxlaw8.PanelReplayMatchesSpec'. -/
def panelReplayMatchesSpecCard : Claim7 := { stood := { row := panelReplayMatchesSpecRow, standIns := [], harness := (true, "10bbcd980512fd4bbe9cef6f6022daf9684fab075cb5a22e5e8bc8d5771b2f21"), looks := false }, kinds := [], alts := [], laidByText := true, laidKinds := [.data, .data, .data, .data, .pinned], laidTests := true, laidLooks := .later }
def PanelReplayMatchesSpecCardSaid : Prop := Claim7.holds Tryz.pinned (.plain (OpenSpec.ofChange panelReplayMatchesSpecSpec)) panelReplayMatchesSpecCard

/-- THE SECOND FORM's CARD OF 'orangeboxtop.TopSeekIsPlay'. -/
def topSeekIsPlayUptoCard : Claim7 := { stood := { row := topSeekIsPlayUptoRow, standIns := [], harness := (true, "10bbcd980512fd4bbe9cef6f6022daf9684fab075cb5a22e5e8bc8d5771b2f21"), looks := false }, kinds := [], alts := [], laidByText := true, laidKinds := [.data, .data, .data, .data, .data, .pinned], laidTests := true, laidLooks := .later }
def TopSeekIsPlayUptoCardSaid : Prop := Claim7.holds Tryz.pinned (.plain (OpenSpec.upto topSeekIsPlaySpec)) topSeekIsPlayUptoCard

/-- THE SECOND FORM's CARD OF 'orangeboxlaw8.PanelShowsSolidNumbers'. -/
def panelShowsSolidNumbersUptoCard : Claim7 := { stood := { row := panelShowsSolidNumbersUptoRow, standIns := [], harness := (true, "10bbcd980512fd4bbe9cef6f6022daf9684fab075cb5a22e5e8bc8d5771b2f21"), looks := false }, kinds := [], alts := [], laidByText := true, laidKinds := [.data, .data, .data, .data, .pinned], laidTests := true, laidLooks := .later }
def PanelShowsSolidNumbersUptoCardSaid : Prop := Claim7.holds Tryz.pinned (.plain (OpenSpec.upto panelShowsSolidNumbersSpec)) panelShowsSolidNumbersUptoCard

/-- THE SECOND FORM's CARD OF 'orangeboxlaw8.PanelAdvanceMatchesSpec'. -/
def panelAdvanceMatchesSpecUptoCard : Claim7 := { stood := { row := panelAdvanceMatchesSpecUptoRow, standIns := [], harness := (true, "10bbcd980512fd4bbe9cef6f6022daf9684fab075cb5a22e5e8bc8d5771b2f21"), looks := false }, kinds := [], alts := [], laidByText := true, laidKinds := [.data, .data, .data, .data, .pinned], laidTests := true, laidLooks := .later }
def PanelAdvanceMatchesSpecUptoCardSaid : Prop := Claim7.holds Tryz.pinned (.plain (OpenSpec.upto panelAdvanceMatchesSpecSpec)) panelAdvanceMatchesSpecUptoCard

/-- THE SECOND FORM's CARD OF 'orangeboxlaw8.PanelReplayMatchesSpec'. -/
def panelReplayMatchesSpecUptoCard : Claim7 := { stood := { row := panelReplayMatchesSpecUptoRow, standIns := [], harness := (true, "10bbcd980512fd4bbe9cef6f6022daf9684fab075cb5a22e5e8bc8d5771b2f21"), looks := false }, kinds := [], alts := [], laidByText := true, laidKinds := [.data, .data, .data, .data, .pinned], laidTests := true, laidLooks := .later }
def PanelReplayMatchesSpecUptoCardSaid : Prop := Claim7.holds Tryz.pinned (.plain (OpenSpec.upto panelReplayMatchesSpecSpec)) panelReplayMatchesSpecUptoCard
end Rows
end Go.Proofs.YtailpehcgelmdaaGreatDoor

/-
  DERIVED. GIVEN WITH THE SEED: THE CARDS: each row of YtjfoenlooacoiaaDoorRows.lean that lists a variable, with what it lists TIED to the program's text (the seventh form; the later family's looks); each row that meets fmt, with fmt's text TOLD by the authors' own Lean function (tested against real Go, not proved from fmt's source: count such statements apart). THE CARD IS WHAT COUNTS. Prove the row's statement (the work); the ties are given (YtjfoenlooacoiaaDoorTie.lean); close each card by the builder's one call (the guide's Derived/Test/ToyasCard.lean, 'card_holds'). Laid BY PROGRAM, IN A SANDBOX (cutbox-door.mjs). By AI agents, Wed Nov 11 2026. No macro, syntax, notation, axiom, sorry.
-/
import Derived.Test.YtjfoenlooacoiaaDoorRows
import GoSem.ClaimSeven
namespace Go.Proofs.YtjfoenlooacoiaaDoor
namespace Rows

/-- THE TIED CARD OF 'orangeboxtop.TopRingsKeepTheLatest'. -/
def topRingsKeepTheLatestCard : Claim7 := { stood := { row := topRingsKeepTheLatestRow, standIns := [], harness := (true, "7158df88d2ddbfe49bb8eb6c9dfa30a186da5640977f06b5a49cff102d6d9765"), looks := false }, kinds := [], alts := [], laidByText := true, laidKinds := [.data], laidTests := true, laidLooks := .later }
def TopRingsKeepTheLatestCardSaid : Prop := Claim7.holds Tryd.pinned (.plain (OpenSpec.ofChange topRingsKeepTheLatestSpec)) topRingsKeepTheLatestCard

/-- THE SECOND FORM's CARD OF 'orangeboxtop.TopRingsKeepTheLatest'. -/
def topRingsKeepTheLatestUptoCard : Claim7 := { stood := { row := topRingsKeepTheLatestUptoRow, standIns := [], harness := (true, "7158df88d2ddbfe49bb8eb6c9dfa30a186da5640977f06b5a49cff102d6d9765"), looks := false }, kinds := [], alts := [], laidByText := true, laidKinds := [.data], laidTests := true, laidLooks := .later }
def TopRingsKeepTheLatestUptoCardSaid : Prop := Claim7.holds Tryd.pinned (.plain (OpenSpec.upto topRingsKeepTheLatestSpec)) topRingsKeepTheLatestUptoCard
end Rows
end Go.Proofs.YtjfoenlooacoiaaDoor

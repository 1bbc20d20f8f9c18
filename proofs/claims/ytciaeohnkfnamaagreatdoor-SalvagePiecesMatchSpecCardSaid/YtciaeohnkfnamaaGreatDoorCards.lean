/-
  DERIVED. GIVEN WITH THE SEED: THE CARDS: each row of YtciaeohnkfnamaaGreatDoorRows.lean that lists a variable, with what it lists TIED to the program's text (the seventh form; the later family's looks); each row that meets fmt, with fmt's text TOLD by the authors' own Lean function (tested against real Go, not proved from fmt's source: count such statements apart). THE CARD IS WHAT COUNTS. Prove the row's statement (the work); the ties are given (YtciaeohnkfnamaaGreatDoorTie.lean); close each card by the builder's one call (the guide's Derived/Test/ToyasCard.lean, 'card_holds'). Laid BY PROGRAM, IN A SANDBOX (cutbox-door.mjs). By AI agents, Wed Nov 11 2026. No macro, syntax, notation, axiom, sorry.
-/
import Derived.Test.YtciaeohnkfnamaaGreatDoorRows
import GoSem.ClaimSeven
namespace Go.Proofs.YtciaeohnkfnamaaGreatDoor
namespace Rows

/-- THE TIED CARD OF 'orangeboxtop.TopSeriesAreWhatWasGiven'. -/
def topSeriesAreWhatWasGivenCard : Claim7 := { stood := { row := topSeriesAreWhatWasGivenRow, standIns := [], harness := (true, "54fa6532b1d31029d9c2f69f9130e7fea3b1b388b575290a95fa54157f8f6697"), looks := false }, kinds := [], alts := [], laidByText := true, laidKinds := [.data], laidTests := true, laidLooks := .later }
def TopSeriesAreWhatWasGivenCardSaid : Prop := Claim7.holds Tryz.pinned (.plain (OpenSpec.ofChange topSeriesAreWhatWasGivenSpec)) topSeriesAreWhatWasGivenCard

/-- THE TIED CARD OF 'orangeboxlaw5.SeriesFromRestsMatchesSpec'. -/
def seriesFromRestsMatchesSpecCard : Claim7 := { stood := { row := seriesFromRestsMatchesSpecRow, standIns := [], harness := (true, "54fa6532b1d31029d9c2f69f9130e7fea3b1b388b575290a95fa54157f8f6697"), looks := false }, kinds := [], alts := [], laidByText := true, laidKinds := [.data, .data, .data, .data], laidTests := true, laidLooks := .later }
def SeriesFromRestsMatchesSpecCardSaid : Prop := Claim7.holds Tryz.pinned (.plain (OpenSpec.ofChange seriesFromRestsMatchesSpecSpec)) seriesFromRestsMatchesSpecCard

/-- THE TIED CARD OF 'orangeboxlaw4.SalvageRestsMatchSpec'. -/
def salvageRestsMatchSpecCard : Claim7 := { stood := { row := salvageRestsMatchSpecRow, standIns := [], harness := (true, "54fa6532b1d31029d9c2f69f9130e7fea3b1b388b575290a95fa54157f8f6697"), looks := false }, kinds := [], alts := [], laidByText := true, laidKinds := [.data], laidTests := true, laidLooks := .later }
def SalvageRestsMatchSpecCardSaid : Prop := Claim7.holds Tryz.pinned (.plain (OpenSpec.ofChange salvageRestsMatchSpecSpec)) salvageRestsMatchSpecCard

/-- THE TIED CARD OF 'orangeboxlaw4.SalvageFindsWholeFrames'. -/
def salvageFindsWholeFramesCard : Claim7 := { stood := { row := salvageFindsWholeFramesRow, standIns := [], harness := (true, "54fa6532b1d31029d9c2f69f9130e7fea3b1b388b575290a95fa54157f8f6697"), looks := false }, kinds := [], alts := [], laidByText := true, laidKinds := [.data], laidTests := true, laidLooks := .later }
def SalvageFindsWholeFramesCardSaid : Prop := Claim7.holds Tryz.pinned (.plain (OpenSpec.ofChange salvageFindsWholeFramesSpec)) salvageFindsWholeFramesCard

/-- THE TIED CARD OF 'orangeboxlaw4.SalvageScanMatchesSpec'. -/
def salvageScanMatchesSpecCard : Claim7 := { stood := { row := salvageScanMatchesSpecRow, standIns := [], harness := (true, "54fa6532b1d31029d9c2f69f9130e7fea3b1b388b575290a95fa54157f8f6697"), looks := false }, kinds := [], alts := [], laidByText := true, laidKinds := [.data], laidTests := true, laidLooks := .later }
def SalvageScanMatchesSpecCardSaid : Prop := Claim7.holds Tryz.pinned (.plain (OpenSpec.ofChange salvageScanMatchesSpecSpec)) salvageScanMatchesSpecCard

/-- THE TIED CARD OF 'orangeboxlaw4.SalvageCutKeepsHalves'. -/
def salvageCutKeepsHalvesCard : Claim7 := { stood := { row := salvageCutKeepsHalvesRow, standIns := [], harness := (true, "54fa6532b1d31029d9c2f69f9130e7fea3b1b388b575290a95fa54157f8f6697"), looks := false }, kinds := [], alts := [], laidByText := true, laidKinds := [.data], laidTests := true, laidLooks := .later }
def SalvageCutKeepsHalvesCardSaid : Prop := Claim7.holds Tryz.pinned (.plain (OpenSpec.ofChange salvageCutKeepsHalvesSpec)) salvageCutKeepsHalvesCard

/-- THE TIED CARD OF 'orangeboxlaw4.SalvagePieceMatchesSpec'. -/
def salvagePieceMatchesSpecCard : Claim7 := { stood := { row := salvagePieceMatchesSpecRow, standIns := [], harness := (true, "54fa6532b1d31029d9c2f69f9130e7fea3b1b388b575290a95fa54157f8f6697"), looks := false }, kinds := [], alts := [], laidByText := true, laidKinds := [.data], laidTests := true, laidLooks := .later }
def SalvagePieceMatchesSpecCardSaid : Prop := Claim7.holds Tryz.pinned (.plain (OpenSpec.ofChange salvagePieceMatchesSpecSpec)) salvagePieceMatchesSpecCard

/-- THE TIED CARD OF 'orangeboxlaw4.SalvageJoinMatchesSpec'. -/
def salvageJoinMatchesSpecCard : Claim7 := { stood := { row := salvageJoinMatchesSpecRow, standIns := [], harness := (true, "54fa6532b1d31029d9c2f69f9130e7fea3b1b388b575290a95fa54157f8f6697"), looks := false }, kinds := [], alts := [], laidByText := true, laidKinds := [.data], laidTests := true, laidLooks := .later }
def SalvageJoinMatchesSpecCardSaid : Prop := Claim7.holds Tryz.pinned (.plain (OpenSpec.ofChange salvageJoinMatchesSpecSpec)) salvageJoinMatchesSpecCard

/-- THE TIED CARD OF 'orangeboxlaw4.SalvagePiecesMatchSpec'. -/
def salvagePiecesMatchSpecCard : Claim7 := { stood := { row := salvagePiecesMatchSpecRow, standIns := [], harness := (true, "54fa6532b1d31029d9c2f69f9130e7fea3b1b388b575290a95fa54157f8f6697"), looks := false }, kinds := [], alts := [], laidByText := true, laidKinds := [.data], laidTests := true, laidLooks := .later }
def SalvagePiecesMatchSpecCardSaid : Prop := Claim7.holds Tryz.pinned (.plain (OpenSpec.ofChange salvagePiecesMatchSpecSpec)) salvagePiecesMatchSpecCard

/-- THE TIED CARD OF 'orangeboxlaw4.SalvageMergeMatchesSpec'. -/
def salvageMergeMatchesSpecCard : Claim7 := { stood := { row := salvageMergeMatchesSpecRow, standIns := [], harness := (true, "54fa6532b1d31029d9c2f69f9130e7fea3b1b388b575290a95fa54157f8f6697"), looks := false }, kinds := [], alts := [], laidByText := true, laidKinds := [.data], laidTests := true, laidLooks := .later }
def SalvageMergeMatchesSpecCardSaid : Prop := Claim7.holds Tryz.pinned (.plain (OpenSpec.ofChange salvageMergeMatchesSpecSpec)) salvageMergeMatchesSpecCard

/-- THE SECOND FORM's CARD OF 'orangeboxtop.TopSeriesAreWhatWasGiven'. -/
def topSeriesAreWhatWasGivenUptoCard : Claim7 := { stood := { row := topSeriesAreWhatWasGivenUptoRow, standIns := [], harness := (true, "54fa6532b1d31029d9c2f69f9130e7fea3b1b388b575290a95fa54157f8f6697"), looks := false }, kinds := [], alts := [], laidByText := true, laidKinds := [.data], laidTests := true, laidLooks := .later }
def TopSeriesAreWhatWasGivenUptoCardSaid : Prop := Claim7.holds Tryz.pinned (.plain (OpenSpec.upto topSeriesAreWhatWasGivenSpec)) topSeriesAreWhatWasGivenUptoCard

/-- THE SECOND FORM's CARD OF 'orangeboxlaw5.SeriesFromRestsMatchesSpec'. -/
def seriesFromRestsMatchesSpecUptoCard : Claim7 := { stood := { row := seriesFromRestsMatchesSpecUptoRow, standIns := [], harness := (true, "54fa6532b1d31029d9c2f69f9130e7fea3b1b388b575290a95fa54157f8f6697"), looks := false }, kinds := [], alts := [], laidByText := true, laidKinds := [.data, .data, .data, .data], laidTests := true, laidLooks := .later }
def SeriesFromRestsMatchesSpecUptoCardSaid : Prop := Claim7.holds Tryz.pinned (.plain (OpenSpec.upto seriesFromRestsMatchesSpecSpec)) seriesFromRestsMatchesSpecUptoCard

/-- THE SECOND FORM's CARD OF 'orangeboxlaw4.SalvageRestsMatchSpec'. -/
def salvageRestsMatchSpecUptoCard : Claim7 := { stood := { row := salvageRestsMatchSpecUptoRow, standIns := [], harness := (true, "54fa6532b1d31029d9c2f69f9130e7fea3b1b388b575290a95fa54157f8f6697"), looks := false }, kinds := [], alts := [], laidByText := true, laidKinds := [.data], laidTests := true, laidLooks := .later }
def SalvageRestsMatchSpecUptoCardSaid : Prop := Claim7.holds Tryz.pinned (.plain (OpenSpec.upto salvageRestsMatchSpecSpec)) salvageRestsMatchSpecUptoCard

/-- THE SECOND FORM's CARD OF 'orangeboxlaw4.SalvageFindsWholeFrames'. -/
def salvageFindsWholeFramesUptoCard : Claim7 := { stood := { row := salvageFindsWholeFramesUptoRow, standIns := [], harness := (true, "54fa6532b1d31029d9c2f69f9130e7fea3b1b388b575290a95fa54157f8f6697"), looks := false }, kinds := [], alts := [], laidByText := true, laidKinds := [.data], laidTests := true, laidLooks := .later }
def SalvageFindsWholeFramesUptoCardSaid : Prop := Claim7.holds Tryz.pinned (.plain (OpenSpec.upto salvageFindsWholeFramesSpec)) salvageFindsWholeFramesUptoCard

/-- THE SECOND FORM's CARD OF 'orangeboxlaw4.SalvageScanMatchesSpec'. -/
def salvageScanMatchesSpecUptoCard : Claim7 := { stood := { row := salvageScanMatchesSpecUptoRow, standIns := [], harness := (true, "54fa6532b1d31029d9c2f69f9130e7fea3b1b388b575290a95fa54157f8f6697"), looks := false }, kinds := [], alts := [], laidByText := true, laidKinds := [.data], laidTests := true, laidLooks := .later }
def SalvageScanMatchesSpecUptoCardSaid : Prop := Claim7.holds Tryz.pinned (.plain (OpenSpec.upto salvageScanMatchesSpecSpec)) salvageScanMatchesSpecUptoCard

/-- THE SECOND FORM's CARD OF 'orangeboxlaw4.SalvageCutKeepsHalves'. -/
def salvageCutKeepsHalvesUptoCard : Claim7 := { stood := { row := salvageCutKeepsHalvesUptoRow, standIns := [], harness := (true, "54fa6532b1d31029d9c2f69f9130e7fea3b1b388b575290a95fa54157f8f6697"), looks := false }, kinds := [], alts := [], laidByText := true, laidKinds := [.data], laidTests := true, laidLooks := .later }
def SalvageCutKeepsHalvesUptoCardSaid : Prop := Claim7.holds Tryz.pinned (.plain (OpenSpec.upto salvageCutKeepsHalvesSpec)) salvageCutKeepsHalvesUptoCard

/-- THE SECOND FORM's CARD OF 'orangeboxlaw4.SalvagePieceMatchesSpec'. -/
def salvagePieceMatchesSpecUptoCard : Claim7 := { stood := { row := salvagePieceMatchesSpecUptoRow, standIns := [], harness := (true, "54fa6532b1d31029d9c2f69f9130e7fea3b1b388b575290a95fa54157f8f6697"), looks := false }, kinds := [], alts := [], laidByText := true, laidKinds := [.data], laidTests := true, laidLooks := .later }
def SalvagePieceMatchesSpecUptoCardSaid : Prop := Claim7.holds Tryz.pinned (.plain (OpenSpec.upto salvagePieceMatchesSpecSpec)) salvagePieceMatchesSpecUptoCard

/-- THE SECOND FORM's CARD OF 'orangeboxlaw4.SalvageJoinMatchesSpec'. -/
def salvageJoinMatchesSpecUptoCard : Claim7 := { stood := { row := salvageJoinMatchesSpecUptoRow, standIns := [], harness := (true, "54fa6532b1d31029d9c2f69f9130e7fea3b1b388b575290a95fa54157f8f6697"), looks := false }, kinds := [], alts := [], laidByText := true, laidKinds := [.data], laidTests := true, laidLooks := .later }
def SalvageJoinMatchesSpecUptoCardSaid : Prop := Claim7.holds Tryz.pinned (.plain (OpenSpec.upto salvageJoinMatchesSpecSpec)) salvageJoinMatchesSpecUptoCard

/-- THE SECOND FORM's CARD OF 'orangeboxlaw4.SalvagePiecesMatchSpec'. -/
def salvagePiecesMatchSpecUptoCard : Claim7 := { stood := { row := salvagePiecesMatchSpecUptoRow, standIns := [], harness := (true, "54fa6532b1d31029d9c2f69f9130e7fea3b1b388b575290a95fa54157f8f6697"), looks := false }, kinds := [], alts := [], laidByText := true, laidKinds := [.data], laidTests := true, laidLooks := .later }
def SalvagePiecesMatchSpecUptoCardSaid : Prop := Claim7.holds Tryz.pinned (.plain (OpenSpec.upto salvagePiecesMatchSpecSpec)) salvagePiecesMatchSpecUptoCard

/-- THE SECOND FORM's CARD OF 'orangeboxlaw4.SalvageMergeMatchesSpec'. -/
def salvageMergeMatchesSpecUptoCard : Claim7 := { stood := { row := salvageMergeMatchesSpecUptoRow, standIns := [], harness := (true, "54fa6532b1d31029d9c2f69f9130e7fea3b1b388b575290a95fa54157f8f6697"), looks := false }, kinds := [], alts := [], laidByText := true, laidKinds := [.data], laidTests := true, laidLooks := .later }
def SalvageMergeMatchesSpecUptoCardSaid : Prop := Claim7.holds Tryz.pinned (.plain (OpenSpec.upto salvageMergeMatchesSpecSpec)) salvageMergeMatchesSpecUptoCard
end Rows
end Go.Proofs.YtciaeohnkfnamaaGreatDoor

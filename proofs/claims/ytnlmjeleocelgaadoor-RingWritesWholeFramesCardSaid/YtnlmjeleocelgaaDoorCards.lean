/-
  DERIVED. GIVEN WITH THE SEED: THE CARDS: each row of YtnlmjeleocelgaaDoorRows.lean that lists a variable, with what it lists TIED to the program's text (the seventh form; the later family's looks); each row that meets fmt, with fmt's text TOLD by the authors' own Lean function (tested against real Go, not proved from fmt's source: count such statements apart). THE CARD IS WHAT COUNTS. Prove the row's statement (the work); the ties are given (YtnlmjeleocelgaaDoorTie.lean); close each card by the builder's one call (the guide's Derived/Test/ToyasCard.lean, 'card_holds'). Laid BY PROGRAM, IN A SANDBOX (cutbox-door.mjs). By AI agents, Wed Nov 11 2026. No macro, syntax, notation, axiom, sorry.
-/
import Derived.Test.YtnlmjeleocelgaaDoorRows
import GoSem.ClaimSeven
namespace Go.Proofs.YtnlmjeleocelgaaDoor
namespace Rows

/-- THE TIED CARD OF 'orangeboxlaw3.RingTargetsMatchSpec'. -/
def ringTargetsMatchSpecCard : Claim7 := { stood := { row := ringTargetsMatchSpecRow, standIns := [], harness := (true, "3fedb3e75c50feb1b327ad0b35298398016d558eafd4186276b2aee8a3ca80f7"), looks := false }, kinds := [], alts := [], laidByText := true, laidKinds := [.data], laidTests := true, laidLooks := .later }
def RingTargetsMatchSpecCardSaid : Prop := Claim7.holds Tryd.pinned (.plain (OpenSpec.ofChange ringTargetsMatchSpecSpec)) ringTargetsMatchSpecCard

/-- THE TIED CARD OF 'orangeboxlaw3.RingBitsGoOneWay'. -/
def ringBitsGoOneWayCard : Claim7 := { stood := { row := ringBitsGoOneWayRow, standIns := [], harness := (true, "3fedb3e75c50feb1b327ad0b35298398016d558eafd4186276b2aee8a3ca80f7"), looks := false }, kinds := [], alts := [], laidByText := true, laidKinds := [.data], laidTests := true, laidLooks := .later }
def RingBitsGoOneWayCardSaid : Prop := Claim7.holds Tryd.pinned (.plain (OpenSpec.ofChange ringBitsGoOneWaySpec)) ringBitsGoOneWayCard

/-- THE TIED CARD OF 'orangeboxlaw3.RingWritesWholeFrames'. -/
def ringWritesWholeFramesCard : Claim7 := { stood := { row := ringWritesWholeFramesRow, standIns := [], harness := (true, "3fedb3e75c50feb1b327ad0b35298398016d558eafd4186276b2aee8a3ca80f7"), looks := false }, kinds := [], alts := [], laidByText := true, laidKinds := [.data], laidTests := true, laidLooks := .later }
def RingWritesWholeFramesCardSaid : Prop := Claim7.holds Tryd.pinned (.plain (OpenSpec.ofChange ringWritesWholeFramesSpec)) ringWritesWholeFramesCard

/-- THE SECOND FORM's CARD OF 'orangeboxlaw3.RingTargetsMatchSpec'. -/
def ringTargetsMatchSpecUptoCard : Claim7 := { stood := { row := ringTargetsMatchSpecUptoRow, standIns := [], harness := (true, "3fedb3e75c50feb1b327ad0b35298398016d558eafd4186276b2aee8a3ca80f7"), looks := false }, kinds := [], alts := [], laidByText := true, laidKinds := [.data], laidTests := true, laidLooks := .later }
def RingTargetsMatchSpecUptoCardSaid : Prop := Claim7.holds Tryd.pinned (.plain (OpenSpec.upto ringTargetsMatchSpecSpec)) ringTargetsMatchSpecUptoCard

/-- THE SECOND FORM's CARD OF 'orangeboxlaw3.RingBitsGoOneWay'. -/
def ringBitsGoOneWayUptoCard : Claim7 := { stood := { row := ringBitsGoOneWayUptoRow, standIns := [], harness := (true, "3fedb3e75c50feb1b327ad0b35298398016d558eafd4186276b2aee8a3ca80f7"), looks := false }, kinds := [], alts := [], laidByText := true, laidKinds := [.data], laidTests := true, laidLooks := .later }
def RingBitsGoOneWayUptoCardSaid : Prop := Claim7.holds Tryd.pinned (.plain (OpenSpec.upto ringBitsGoOneWaySpec)) ringBitsGoOneWayUptoCard

/-- THE SECOND FORM's CARD OF 'orangeboxlaw3.RingWritesWholeFrames'. -/
def ringWritesWholeFramesUptoCard : Claim7 := { stood := { row := ringWritesWholeFramesUptoRow, standIns := [], harness := (true, "3fedb3e75c50feb1b327ad0b35298398016d558eafd4186276b2aee8a3ca80f7"), looks := false }, kinds := [], alts := [], laidByText := true, laidKinds := [.data], laidTests := true, laidLooks := .later }
def RingWritesWholeFramesUptoCardSaid : Prop := Claim7.holds Tryd.pinned (.plain (OpenSpec.upto ringWritesWholeFramesSpec)) ringWritesWholeFramesUptoCard
end Rows
end Go.Proofs.YtnlmjeleocelgaaDoor

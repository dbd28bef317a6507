/-
  DERIVED. GIVEN WITH THE SEED: THE CARDS: each row of YtogaclolodlnbaaGreatDoorRows.lean that lists a variable, with what it lists TIED to the program's text (the seventh form; the later family's looks); each row that meets fmt, with fmt's text TOLD by the authors' own Lean function (tested against real Go, not proved from fmt's source: count such statements apart). THE CARD IS WHAT COUNTS. Prove the row's statement (the work); the ties are given (YtogaclolodlnbaaGreatDoorTie.lean); close each card by the builder's one call (the guide's Derived/Test/ToyasCard.lean, 'card_holds'). Laid BY PROGRAM, IN A SANDBOX (cutbox-door.mjs). By AI agents, Wed Nov 11 2026. No macro, syntax, notation, axiom, sorry.
-/
import Derived.Test.YtogaclolodlnbaaGreatDoorRows
import GoSem.ClaimSeven
namespace Go.Proofs.YtogaclolodlnbaaGreatDoor
namespace Rows

/-- THE TIED CARD OF 'intagliolaw09.LookDecodes'. -/
def lookDecodesCard : Claim7 := { stood := { row := lookDecodesRow, standIns := [], harness := (true, "6ab5d6f97e09ba14ba5c9b187c2cce0a2bc72bbc3dee580ffbe37fe65adc8137"), looks := true }, kinds := [], alts := [], laidByText := true, laidKinds := [.handle], laidTests := true, laidLooks := .later }
def LookDecodesCardSaid : Prop := Claim7.holds Tryz.pinned (.plain (OpenSpec.ofChange lookDecodesSpec)) lookDecodesCard

/-- THE SECOND FORM's CARD OF 'intagliolaw09.LookDecodes'. -/
def lookDecodesUptoCard : Claim7 := { stood := { row := lookDecodesUptoRow, standIns := [], harness := (true, "6ab5d6f97e09ba14ba5c9b187c2cce0a2bc72bbc3dee580ffbe37fe65adc8137"), looks := true }, kinds := [], alts := [], laidByText := true, laidKinds := [.handle], laidTests := true, laidLooks := .later }
def LookDecodesUptoCardSaid : Prop := Claim7.holds Tryz.pinned (.plain (OpenSpec.upto lookDecodesSpec)) lookDecodesUptoCard
end Rows
end Go.Proofs.YtogaclolodlnbaaGreatDoor

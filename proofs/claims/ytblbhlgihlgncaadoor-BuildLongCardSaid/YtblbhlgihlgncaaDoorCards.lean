/-
  DERIVED. GIVEN WITH THE SEED: THE CARDS: each row of YtblbhlgihlgncaaDoorRows.lean that lists a variable, with what it lists TIED to the program's text (the seventh form; the later family's looks); each row that meets fmt, with fmt's text TOLD by the authors' own Lean function (tested against real Go, not proved from fmt's source: count such statements apart). THE CARD IS WHAT COUNTS. Prove the row's statement (the work); the ties are given (YtblbhlgihlgncaaDoorTie.lean); close each card by the builder's one call (the guide's Derived/Test/ToyasCard.lean, 'card_holds'). Laid BY PROGRAM, IN A SANDBOX (cutbox-door.mjs). By AI agents, Wed Nov 11 2026. No macro, syntax, notation, axiom, sorry.
-/
import Derived.Test.YtblbhlgihlgncaaDoorRows
import GoSem.ClaimSeven
namespace Go.Proofs.YtblbhlgihlgncaaDoor
namespace Rows

/-- THE TIED CARD OF 'intagliolaw07.BuildLong'. -/
def buildLongCard : Claim7 := { stood := { row := buildLongRow, standIns := [], harness := (true, "ed96da5e2dd68ff8613befb98b3a4a56bbdf29b0e4701ecbb609d31b9d1e9803"), looks := true }, kinds := [], alts := [], laidByText := true, laidKinds := [.handle], laidTests := true, laidLooks := .later }
def BuildLongCardSaid : Prop := Claim7.holds Tryd.pinned (.plain (OpenSpec.ofChange buildLongSpec)) buildLongCard

/-- THE TIED CARD OF 'intagliolaw09.LookAsks'. -/
def lookAsksCard : Claim7 := { stood := { row := lookAsksRow, standIns := [], harness := (true, "ed96da5e2dd68ff8613befb98b3a4a56bbdf29b0e4701ecbb609d31b9d1e9803"), looks := true }, kinds := [], alts := [], laidByText := true, laidKinds := [.handle], laidTests := true, laidLooks := .later }
def LookAsksCardSaid : Prop := Claim7.holds Tryd.pinned (.plain (OpenSpec.ofChange lookAsksSpec)) lookAsksCard

/-- THE SECOND FORM's CARD OF 'intagliolaw07.BuildLong'. -/
def buildLongUptoCard : Claim7 := { stood := { row := buildLongUptoRow, standIns := [], harness := (true, "ed96da5e2dd68ff8613befb98b3a4a56bbdf29b0e4701ecbb609d31b9d1e9803"), looks := true }, kinds := [], alts := [], laidByText := true, laidKinds := [.handle], laidTests := true, laidLooks := .later }
def BuildLongUptoCardSaid : Prop := Claim7.holds Tryd.pinned (.plain (OpenSpec.upto buildLongSpec)) buildLongUptoCard

/-- THE SECOND FORM's CARD OF 'intagliolaw09.LookAsks'. -/
def lookAsksUptoCard : Claim7 := { stood := { row := lookAsksUptoRow, standIns := [], harness := (true, "ed96da5e2dd68ff8613befb98b3a4a56bbdf29b0e4701ecbb609d31b9d1e9803"), looks := true }, kinds := [], alts := [], laidByText := true, laidKinds := [.handle], laidTests := true, laidLooks := .later }
def LookAsksUptoCardSaid : Prop := Claim7.holds Tryd.pinned (.plain (OpenSpec.upto lookAsksSpec)) lookAsksUptoCard
end Rows
end Go.Proofs.YtblbhlgihlgncaaDoor

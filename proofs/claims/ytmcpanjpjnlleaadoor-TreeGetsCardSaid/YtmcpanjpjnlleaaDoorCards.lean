/-
  DERIVED. GIVEN WITH THE SEED: THE CARDS: each row of YtmcpanjpjnlleaaDoorRows.lean that lists a variable, with what it lists TIED to the program's text (the seventh form; the later family's looks); each row that meets fmt, with fmt's text TOLD by the authors' own Lean function (tested against real Go, not proved from fmt's source: count such statements apart). THE CARD IS WHAT COUNTS. Prove the row's statement (the work); the ties are given (YtmcpanjpjnlleaaDoorTie.lean); close each card by the builder's one call (the guide's Derived/Test/ToyasCard.lean, 'card_holds'). Laid BY PROGRAM, IN A SANDBOX (cutbox-door.mjs). By AI agents, Wed Nov 11 2026. No macro, syntax, notation, axiom, sorry.
-/
import Derived.Test.YtmcpanjpjnlleaaDoorRows
import GoSem.ClaimSeven
namespace Go.Proofs.YtmcpanjpjnlleaaDoor
namespace Rows

/-- THE TIED CARD OF 'intagliolaw06.TreeGets'. -/
def treeGetsCard : Claim7 := { stood := { row := treeGetsRow, standIns := [], harness := (true, "38b56dd0d8ddc1e58531db1d4abd8c788d0f7c379273d464fc643d1cd209ed6d"), looks := true }, kinds := [], alts := [], laidByText := true, laidKinds := [.handle], laidTests := true, laidLooks := .later }
def TreeGetsCardSaid : Prop := Claim7.holds Tryd.pinned (.plain (OpenSpec.ofChange treeGetsSpec)) treeGetsCard

/-- THE TIED CARD OF 'intagliolaw06.TreeParts'. -/
def treePartsCard : Claim7 := { stood := { row := treePartsRow, standIns := [], harness := (true, "38b56dd0d8ddc1e58531db1d4abd8c788d0f7c379273d464fc643d1cd209ed6d"), looks := true }, kinds := [], alts := [], laidByText := true, laidKinds := [.handle], laidTests := true, laidLooks := .later }
def TreePartsCardSaid : Prop := Claim7.holds Tryd.pinned (.plain (OpenSpec.ofChange treePartsSpec)) treePartsCard

/-- THE TIED CARD OF 'intagliolaw06.TreeSame'. -/
def treeSameCard : Claim7 := { stood := { row := treeSameRow, standIns := [], harness := (true, "38b56dd0d8ddc1e58531db1d4abd8c788d0f7c379273d464fc643d1cd209ed6d"), looks := true }, kinds := [], alts := [], laidByText := true, laidKinds := [.handle], laidTests := true, laidLooks := .later }
def TreeSameCardSaid : Prop := Claim7.holds Tryd.pinned (.plain (OpenSpec.ofChange treeSameSpec)) treeSameCard

/-- THE TIED CARD OF 'intagliolaw06.TreeChecks'. -/
def treeChecksCard : Claim7 := { stood := { row := treeChecksRow, standIns := [], harness := (true, "38b56dd0d8ddc1e58531db1d4abd8c788d0f7c379273d464fc643d1cd209ed6d"), looks := true }, kinds := [], alts := [], laidByText := true, laidKinds := [.handle], laidTests := true, laidLooks := .later }
def TreeChecksCardSaid : Prop := Claim7.holds Tryd.pinned (.plain (OpenSpec.ofChange treeChecksSpec)) treeChecksCard

/-- THE TIED CARD OF 'intagliolaw06.TreeSizes'. -/
def treeSizesCard : Claim7 := { stood := { row := treeSizesRow, standIns := [], harness := (true, "38b56dd0d8ddc1e58531db1d4abd8c788d0f7c379273d464fc643d1cd209ed6d"), looks := true }, kinds := [], alts := [], laidByText := true, laidKinds := [.handle], laidTests := true, laidLooks := .later }
def TreeSizesCardSaid : Prop := Claim7.holds Tryd.pinned (.plain (OpenSpec.ofChange treeSizesSpec)) treeSizesCard

/-- THE TIED CARD OF 'intagliolaw07.BuildRefs'. -/
def buildRefsCard : Claim7 := { stood := { row := buildRefsRow, standIns := [], harness := (true, "38b56dd0d8ddc1e58531db1d4abd8c788d0f7c379273d464fc643d1cd209ed6d"), looks := true }, kinds := [], alts := [], laidByText := true, laidKinds := [.handle], laidTests := true, laidLooks := .later }
def BuildRefsCardSaid : Prop := Claim7.holds Tryd.pinned (.plain (OpenSpec.ofChange buildRefsSpec)) buildRefsCard

/-- THE SECOND FORM's CARD OF 'intagliolaw06.TreeGets'. -/
def treeGetsUptoCard : Claim7 := { stood := { row := treeGetsUptoRow, standIns := [], harness := (true, "38b56dd0d8ddc1e58531db1d4abd8c788d0f7c379273d464fc643d1cd209ed6d"), looks := true }, kinds := [], alts := [], laidByText := true, laidKinds := [.handle], laidTests := true, laidLooks := .later }
def TreeGetsUptoCardSaid : Prop := Claim7.holds Tryd.pinned (.plain (OpenSpec.upto treeGetsSpec)) treeGetsUptoCard

/-- THE SECOND FORM's CARD OF 'intagliolaw06.TreeParts'. -/
def treePartsUptoCard : Claim7 := { stood := { row := treePartsUptoRow, standIns := [], harness := (true, "38b56dd0d8ddc1e58531db1d4abd8c788d0f7c379273d464fc643d1cd209ed6d"), looks := true }, kinds := [], alts := [], laidByText := true, laidKinds := [.handle], laidTests := true, laidLooks := .later }
def TreePartsUptoCardSaid : Prop := Claim7.holds Tryd.pinned (.plain (OpenSpec.upto treePartsSpec)) treePartsUptoCard

/-- THE SECOND FORM's CARD OF 'intagliolaw06.TreeSame'. -/
def treeSameUptoCard : Claim7 := { stood := { row := treeSameUptoRow, standIns := [], harness := (true, "38b56dd0d8ddc1e58531db1d4abd8c788d0f7c379273d464fc643d1cd209ed6d"), looks := true }, kinds := [], alts := [], laidByText := true, laidKinds := [.handle], laidTests := true, laidLooks := .later }
def TreeSameUptoCardSaid : Prop := Claim7.holds Tryd.pinned (.plain (OpenSpec.upto treeSameSpec)) treeSameUptoCard

/-- THE SECOND FORM's CARD OF 'intagliolaw06.TreeChecks'. -/
def treeChecksUptoCard : Claim7 := { stood := { row := treeChecksUptoRow, standIns := [], harness := (true, "38b56dd0d8ddc1e58531db1d4abd8c788d0f7c379273d464fc643d1cd209ed6d"), looks := true }, kinds := [], alts := [], laidByText := true, laidKinds := [.handle], laidTests := true, laidLooks := .later }
def TreeChecksUptoCardSaid : Prop := Claim7.holds Tryd.pinned (.plain (OpenSpec.upto treeChecksSpec)) treeChecksUptoCard

/-- THE SECOND FORM's CARD OF 'intagliolaw06.TreeSizes'. -/
def treeSizesUptoCard : Claim7 := { stood := { row := treeSizesUptoRow, standIns := [], harness := (true, "38b56dd0d8ddc1e58531db1d4abd8c788d0f7c379273d464fc643d1cd209ed6d"), looks := true }, kinds := [], alts := [], laidByText := true, laidKinds := [.handle], laidTests := true, laidLooks := .later }
def TreeSizesUptoCardSaid : Prop := Claim7.holds Tryd.pinned (.plain (OpenSpec.upto treeSizesSpec)) treeSizesUptoCard

/-- THE SECOND FORM's CARD OF 'intagliolaw07.BuildRefs'. -/
def buildRefsUptoCard : Claim7 := { stood := { row := buildRefsUptoRow, standIns := [], harness := (true, "38b56dd0d8ddc1e58531db1d4abd8c788d0f7c379273d464fc643d1cd209ed6d"), looks := true }, kinds := [], alts := [], laidByText := true, laidKinds := [.handle], laidTests := true, laidLooks := .later }
def BuildRefsUptoCardSaid : Prop := Claim7.holds Tryd.pinned (.plain (OpenSpec.upto buildRefsSpec)) buildRefsUptoCard
end Rows
end Go.Proofs.YtmcpanjpjnlleaaDoor

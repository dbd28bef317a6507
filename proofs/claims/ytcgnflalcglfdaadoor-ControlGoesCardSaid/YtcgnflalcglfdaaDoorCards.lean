/-
  DERIVED. GIVEN WITH THE SEED: THE CARDS: each row of YtcgnflalcglfdaaDoorRows.lean that lists a variable, with what it lists TIED to the program's text (the seventh form; the later family's looks); each row that meets fmt, with fmt's text TOLD by the authors' own Lean function (tested against real Go, not proved from fmt's source: count such statements apart). THE CARD IS WHAT COUNTS. Prove the row's statement (the work); the ties are given (YtcgnflalcglfdaaDoorTie.lean); close each card by the builder's one call (the guide's Derived/Test/ToyasCard.lean, 'card_holds'). Laid BY PROGRAM, IN A SANDBOX (cutbox-door.mjs). By AI agents, Wed Nov 11 2026. No macro, syntax, notation, axiom, sorry.
-/
import Derived.Test.YtcgnflalcglfdaaDoorRows
import GoSem.ClaimSeven
namespace Go.Proofs.YtcgnflalcglfdaaDoor
namespace Rows

/-- THE TIED CARD OF 'intagliolaw13.ControlTells'. -/
def controlTellsCard : Claim7 := { stood := { row := controlTellsRow, standIns := [], harness := (true, "26a330f55c4c687b4fe5fc7b0600788e5d936562aa434a800ae9fe97ea2433c7"), looks := true }, kinds := [], alts := [], laidByText := true, laidKinds := [.handle], laidTests := true, laidLooks := .later }
def ControlTellsCardSaid : Prop := Claim7.holds Tryd.pinned (.plain (OpenSpec.ofChange controlTellsSpec)) controlTellsCard

/-- THE TIED CARD OF 'intagliolaw05.SchemaSpoilt'. -/
def schemaSpoiltCard : Claim7 := { stood := { row := schemaSpoiltRow, standIns := [], harness := (true, "26a330f55c4c687b4fe5fc7b0600788e5d936562aa434a800ae9fe97ea2433c7"), looks := true }, kinds := [], alts := [], laidByText := true, laidKinds := [.handle], laidTests := true, laidLooks := .later }
def SchemaSpoiltCardSaid : Prop := Claim7.holds Tryd.pinned (.plain (OpenSpec.ofChange schemaSpoiltSpec)) schemaSpoiltCard

/-- THE TIED CARD OF 'intagliolaw05.SchemaReads'. -/
def schemaReadsCard : Claim7 := { stood := { row := schemaReadsRow, standIns := [], harness := (true, "26a330f55c4c687b4fe5fc7b0600788e5d936562aa434a800ae9fe97ea2433c7"), looks := true }, kinds := [], alts := [], laidByText := true, laidKinds := [.handle], laidTests := true, laidLooks := .later }
def SchemaReadsCardSaid : Prop := Claim7.holds Tryd.pinned (.plain (OpenSpec.ofChange schemaReadsSpec)) schemaReadsCard

/-- THE TIED CARD OF 'intagliolaw05.SchemaBack'. -/
def schemaBackCard : Claim7 := { stood := { row := schemaBackRow, standIns := [], harness := (true, "26a330f55c4c687b4fe5fc7b0600788e5d936562aa434a800ae9fe97ea2433c7"), looks := true }, kinds := [], alts := [], laidByText := true, laidKinds := [.handle], laidTests := true, laidLooks := .later }
def SchemaBackCardSaid : Prop := Claim7.holds Tryd.pinned (.plain (OpenSpec.ofChange schemaBackSpec)) schemaBackCard

/-- THE TIED CARD OF 'intagliolaw05.SchemaTells'. -/
def schemaTellsCard : Claim7 := { stood := { row := schemaTellsRow, standIns := [], harness := (true, "26a330f55c4c687b4fe5fc7b0600788e5d936562aa434a800ae9fe97ea2433c7"), looks := true }, kinds := [], alts := [], laidByText := true, laidKinds := [.handle], laidTests := true, laidLooks := .later }
def SchemaTellsCardSaid : Prop := Claim7.holds Tryd.pinned (.plain (OpenSpec.ofChange schemaTellsSpec)) schemaTellsCard

/-- THE TIED CARD OF 'intagliolaw13.ControlStill'. -/
def controlStillCard : Claim7 := { stood := { row := controlStillRow, standIns := [], harness := (true, "26a330f55c4c687b4fe5fc7b0600788e5d936562aa434a800ae9fe97ea2433c7"), looks := true }, kinds := [], alts := [], laidByText := true, laidKinds := [.handle], laidTests := true, laidLooks := .later }
def ControlStillCardSaid : Prop := Claim7.holds Tryd.pinned (.plain (OpenSpec.ofChange controlStillSpec)) controlStillCard

/-- THE TIED CARD OF 'intagliolaw13.ControlApart'. -/
def controlApartCard : Claim7 := { stood := { row := controlApartRow, standIns := [], harness := (true, "26a330f55c4c687b4fe5fc7b0600788e5d936562aa434a800ae9fe97ea2433c7"), looks := true }, kinds := [], alts := [], laidByText := true, laidKinds := [.handle], laidTests := true, laidLooks := .later }
def ControlApartCardSaid : Prop := Claim7.holds Tryd.pinned (.plain (OpenSpec.ofChange controlApartSpec)) controlApartCard

/-- THE TIED CARD OF 'intagliolaw13.ControlCounts'. -/
def controlCountsCard : Claim7 := { stood := { row := controlCountsRow, standIns := [], harness := (true, "26a330f55c4c687b4fe5fc7b0600788e5d936562aa434a800ae9fe97ea2433c7"), looks := true }, kinds := [], alts := [], laidByText := true, laidKinds := [.handle], laidTests := true, laidLooks := .later }
def ControlCountsCardSaid : Prop := Claim7.holds Tryd.pinned (.plain (OpenSpec.ofChange controlCountsSpec)) controlCountsCard

/-- THE TIED CARD OF 'intagliolaw13.ControlGoes'. -/
def controlGoesCard : Claim7 := { stood := { row := controlGoesRow, standIns := [], harness := (true, "26a330f55c4c687b4fe5fc7b0600788e5d936562aa434a800ae9fe97ea2433c7"), looks := true }, kinds := [], alts := [], laidByText := true, laidKinds := [.handle], laidTests := true, laidLooks := .later }
def ControlGoesCardSaid : Prop := Claim7.holds Tryd.pinned (.plain (OpenSpec.ofChange controlGoesSpec)) controlGoesCard

/-- THE TIED CARD OF 'intagliolaw13.ControlAll'. -/
def controlAllCard : Claim7 := { stood := { row := controlAllRow, standIns := [], harness := (true, "26a330f55c4c687b4fe5fc7b0600788e5d936562aa434a800ae9fe97ea2433c7"), looks := true }, kinds := [], alts := [], laidByText := true, laidKinds := [.handle], laidTests := true, laidLooks := .later }
def ControlAllCardSaid : Prop := Claim7.holds Tryd.pinned (.plain (OpenSpec.ofChange controlAllSpec)) controlAllCard

/-- THE SECOND FORM's CARD OF 'intagliolaw13.ControlTells'. -/
def controlTellsUptoCard : Claim7 := { stood := { row := controlTellsUptoRow, standIns := [], harness := (true, "26a330f55c4c687b4fe5fc7b0600788e5d936562aa434a800ae9fe97ea2433c7"), looks := true }, kinds := [], alts := [], laidByText := true, laidKinds := [.handle], laidTests := true, laidLooks := .later }
def ControlTellsUptoCardSaid : Prop := Claim7.holds Tryd.pinned (.plain (OpenSpec.upto controlTellsSpec)) controlTellsUptoCard

/-- THE SECOND FORM's CARD OF 'intagliolaw05.SchemaSpoilt'. -/
def schemaSpoiltUptoCard : Claim7 := { stood := { row := schemaSpoiltUptoRow, standIns := [], harness := (true, "26a330f55c4c687b4fe5fc7b0600788e5d936562aa434a800ae9fe97ea2433c7"), looks := true }, kinds := [], alts := [], laidByText := true, laidKinds := [.handle], laidTests := true, laidLooks := .later }
def SchemaSpoiltUptoCardSaid : Prop := Claim7.holds Tryd.pinned (.plain (OpenSpec.upto schemaSpoiltSpec)) schemaSpoiltUptoCard

/-- THE SECOND FORM's CARD OF 'intagliolaw05.SchemaReads'. -/
def schemaReadsUptoCard : Claim7 := { stood := { row := schemaReadsUptoRow, standIns := [], harness := (true, "26a330f55c4c687b4fe5fc7b0600788e5d936562aa434a800ae9fe97ea2433c7"), looks := true }, kinds := [], alts := [], laidByText := true, laidKinds := [.handle], laidTests := true, laidLooks := .later }
def SchemaReadsUptoCardSaid : Prop := Claim7.holds Tryd.pinned (.plain (OpenSpec.upto schemaReadsSpec)) schemaReadsUptoCard

/-- THE SECOND FORM's CARD OF 'intagliolaw05.SchemaBack'. -/
def schemaBackUptoCard : Claim7 := { stood := { row := schemaBackUptoRow, standIns := [], harness := (true, "26a330f55c4c687b4fe5fc7b0600788e5d936562aa434a800ae9fe97ea2433c7"), looks := true }, kinds := [], alts := [], laidByText := true, laidKinds := [.handle], laidTests := true, laidLooks := .later }
def SchemaBackUptoCardSaid : Prop := Claim7.holds Tryd.pinned (.plain (OpenSpec.upto schemaBackSpec)) schemaBackUptoCard

/-- THE SECOND FORM's CARD OF 'intagliolaw05.SchemaTells'. -/
def schemaTellsUptoCard : Claim7 := { stood := { row := schemaTellsUptoRow, standIns := [], harness := (true, "26a330f55c4c687b4fe5fc7b0600788e5d936562aa434a800ae9fe97ea2433c7"), looks := true }, kinds := [], alts := [], laidByText := true, laidKinds := [.handle], laidTests := true, laidLooks := .later }
def SchemaTellsUptoCardSaid : Prop := Claim7.holds Tryd.pinned (.plain (OpenSpec.upto schemaTellsSpec)) schemaTellsUptoCard

/-- THE SECOND FORM's CARD OF 'intagliolaw13.ControlStill'. -/
def controlStillUptoCard : Claim7 := { stood := { row := controlStillUptoRow, standIns := [], harness := (true, "26a330f55c4c687b4fe5fc7b0600788e5d936562aa434a800ae9fe97ea2433c7"), looks := true }, kinds := [], alts := [], laidByText := true, laidKinds := [.handle], laidTests := true, laidLooks := .later }
def ControlStillUptoCardSaid : Prop := Claim7.holds Tryd.pinned (.plain (OpenSpec.upto controlStillSpec)) controlStillUptoCard

/-- THE SECOND FORM's CARD OF 'intagliolaw13.ControlApart'. -/
def controlApartUptoCard : Claim7 := { stood := { row := controlApartUptoRow, standIns := [], harness := (true, "26a330f55c4c687b4fe5fc7b0600788e5d936562aa434a800ae9fe97ea2433c7"), looks := true }, kinds := [], alts := [], laidByText := true, laidKinds := [.handle], laidTests := true, laidLooks := .later }
def ControlApartUptoCardSaid : Prop := Claim7.holds Tryd.pinned (.plain (OpenSpec.upto controlApartSpec)) controlApartUptoCard

/-- THE SECOND FORM's CARD OF 'intagliolaw13.ControlCounts'. -/
def controlCountsUptoCard : Claim7 := { stood := { row := controlCountsUptoRow, standIns := [], harness := (true, "26a330f55c4c687b4fe5fc7b0600788e5d936562aa434a800ae9fe97ea2433c7"), looks := true }, kinds := [], alts := [], laidByText := true, laidKinds := [.handle], laidTests := true, laidLooks := .later }
def ControlCountsUptoCardSaid : Prop := Claim7.holds Tryd.pinned (.plain (OpenSpec.upto controlCountsSpec)) controlCountsUptoCard

/-- THE SECOND FORM's CARD OF 'intagliolaw13.ControlGoes'. -/
def controlGoesUptoCard : Claim7 := { stood := { row := controlGoesUptoRow, standIns := [], harness := (true, "26a330f55c4c687b4fe5fc7b0600788e5d936562aa434a800ae9fe97ea2433c7"), looks := true }, kinds := [], alts := [], laidByText := true, laidKinds := [.handle], laidTests := true, laidLooks := .later }
def ControlGoesUptoCardSaid : Prop := Claim7.holds Tryd.pinned (.plain (OpenSpec.upto controlGoesSpec)) controlGoesUptoCard

/-- THE SECOND FORM's CARD OF 'intagliolaw13.ControlAll'. -/
def controlAllUptoCard : Claim7 := { stood := { row := controlAllUptoRow, standIns := [], harness := (true, "26a330f55c4c687b4fe5fc7b0600788e5d936562aa434a800ae9fe97ea2433c7"), looks := true }, kinds := [], alts := [], laidByText := true, laidKinds := [.handle], laidTests := true, laidLooks := .later }
def ControlAllUptoCardSaid : Prop := Claim7.holds Tryd.pinned (.plain (OpenSpec.upto controlAllSpec)) controlAllUptoCard
end Rows
end Go.Proofs.YtcgnflalcglfdaaDoor

/-
  DERIVED. GIVEN WITH THE SEED: THE CARDS: each row of YtbhnbjaafejcjaaDoorRows.lean that lists a variable, with what it lists TIED to the program's text (the seventh form; the later family's looks); each row that meets fmt, with fmt's text TOLD by the authors' own Lean function (tested against real Go, not proved from fmt's source: count such statements apart). THE CARD IS WHAT COUNTS. Prove the row's statement (the work); the ties are given (YtbhnbjaafejcjaaDoorTie.lean); close each card by the builder's one call (the guide's Derived/Test/ToyasCard.lean, 'card_holds'). Laid BY PROGRAM, IN A SANDBOX (cutbox-door.mjs). By AI agents, Wed Nov 11 2026. No macro, syntax, notation, axiom, sorry.
-/
import Derived.Test.YtbhnbjaafejcjaaDoorRows
import GoSem.ClaimSeven
namespace Go.Proofs.YtbhnbjaafejcjaaDoor
namespace Rows

/-- THE TIED CARD OF 'intagliolaw05.SchemaSpoilt'. -/
def schemaSpoiltCard : Claim7 := { stood := { row := schemaSpoiltRow, standIns := [], harness := (true, "292eb26343e9575fd77455599ff63638f07721ef70f4c40fe4d41b46cbbf642a"), looks := true }, kinds := [], alts := [], laidByText := true, laidKinds := [.handle], laidTests := true, laidLooks := .later }
def SchemaSpoiltCardSaid : Prop := Claim7.holds Tryd.pinned (.plain (OpenSpec.ofChange schemaSpoiltSpec)) schemaSpoiltCard

/-- THE TIED CARD OF 'intagliolaw05.SchemaReads'. -/
def schemaReadsCard : Claim7 := { stood := { row := schemaReadsRow, standIns := [], harness := (true, "292eb26343e9575fd77455599ff63638f07721ef70f4c40fe4d41b46cbbf642a"), looks := true }, kinds := [], alts := [], laidByText := true, laidKinds := [.handle], laidTests := true, laidLooks := .later }
def SchemaReadsCardSaid : Prop := Claim7.holds Tryd.pinned (.plain (OpenSpec.ofChange schemaReadsSpec)) schemaReadsCard

/-- THE TIED CARD OF 'intagliolaw05.SchemaBack'. -/
def schemaBackCard : Claim7 := { stood := { row := schemaBackRow, standIns := [], harness := (true, "292eb26343e9575fd77455599ff63638f07721ef70f4c40fe4d41b46cbbf642a"), looks := true }, kinds := [], alts := [], laidByText := true, laidKinds := [.handle], laidTests := true, laidLooks := .later }
def SchemaBackCardSaid : Prop := Claim7.holds Tryd.pinned (.plain (OpenSpec.ofChange schemaBackSpec)) schemaBackCard

/-- THE TIED CARD OF 'intagliolaw05.SchemaTells'. -/
def schemaTellsCard : Claim7 := { stood := { row := schemaTellsRow, standIns := [], harness := (true, "292eb26343e9575fd77455599ff63638f07721ef70f4c40fe4d41b46cbbf642a"), looks := true }, kinds := [], alts := [], laidByText := true, laidKinds := [.handle], laidTests := true, laidLooks := .later }
def SchemaTellsCardSaid : Prop := Claim7.holds Tryd.pinned (.plain (OpenSpec.ofChange schemaTellsSpec)) schemaTellsCard

/-- THE TIED CARD OF 'intagliolaw13.ControlApart'. -/
def controlApartCard : Claim7 := { stood := { row := controlApartRow, standIns := [], harness := (true, "292eb26343e9575fd77455599ff63638f07721ef70f4c40fe4d41b46cbbf642a"), looks := true }, kinds := [], alts := [], laidByText := true, laidKinds := [.handle], laidTests := true, laidLooks := .later }
def ControlApartCardSaid : Prop := Claim7.holds Tryd.pinned (.plain (OpenSpec.ofChange controlApartSpec)) controlApartCard

/-- THE TIED CARD OF 'intagliolaw13.ControlCounts'. -/
def controlCountsCard : Claim7 := { stood := { row := controlCountsRow, standIns := [], harness := (true, "292eb26343e9575fd77455599ff63638f07721ef70f4c40fe4d41b46cbbf642a"), looks := true }, kinds := [], alts := [], laidByText := true, laidKinds := [.handle], laidTests := true, laidLooks := .later }
def ControlCountsCardSaid : Prop := Claim7.holds Tryd.pinned (.plain (OpenSpec.ofChange controlCountsSpec)) controlCountsCard

/-- THE TIED CARD OF 'intagliolaw13.ControlAll'. -/
def controlAllCard : Claim7 := { stood := { row := controlAllRow, standIns := [], harness := (true, "292eb26343e9575fd77455599ff63638f07721ef70f4c40fe4d41b46cbbf642a"), looks := true }, kinds := [], alts := [], laidByText := true, laidKinds := [.handle], laidTests := true, laidLooks := .later }
def ControlAllCardSaid : Prop := Claim7.holds Tryd.pinned (.plain (OpenSpec.ofChange controlAllSpec)) controlAllCard

/-- THE TIED CARD OF 'intagliolaw09.LookNil'. -/
def lookNilCard : Claim7 := { stood := { row := lookNilRow, standIns := [], harness := (true, "292eb26343e9575fd77455599ff63638f07721ef70f4c40fe4d41b46cbbf642a"), looks := true }, kinds := [], alts := [], laidByText := true, laidKinds := [.handle], laidTests := true, laidLooks := .later }
def LookNilCardSaid : Prop := Claim7.holds Tryd.pinned (.plain (OpenSpec.ofChange lookNilSpec)) lookNilCard

/-- THE SECOND FORM's CARD OF 'intagliolaw05.SchemaSpoilt'. -/
def schemaSpoiltUptoCard : Claim7 := { stood := { row := schemaSpoiltUptoRow, standIns := [], harness := (true, "292eb26343e9575fd77455599ff63638f07721ef70f4c40fe4d41b46cbbf642a"), looks := true }, kinds := [], alts := [], laidByText := true, laidKinds := [.handle], laidTests := true, laidLooks := .later }
def SchemaSpoiltUptoCardSaid : Prop := Claim7.holds Tryd.pinned (.plain (OpenSpec.upto schemaSpoiltSpec)) schemaSpoiltUptoCard

/-- THE SECOND FORM's CARD OF 'intagliolaw05.SchemaReads'. -/
def schemaReadsUptoCard : Claim7 := { stood := { row := schemaReadsUptoRow, standIns := [], harness := (true, "292eb26343e9575fd77455599ff63638f07721ef70f4c40fe4d41b46cbbf642a"), looks := true }, kinds := [], alts := [], laidByText := true, laidKinds := [.handle], laidTests := true, laidLooks := .later }
def SchemaReadsUptoCardSaid : Prop := Claim7.holds Tryd.pinned (.plain (OpenSpec.upto schemaReadsSpec)) schemaReadsUptoCard

/-- THE SECOND FORM's CARD OF 'intagliolaw05.SchemaBack'. -/
def schemaBackUptoCard : Claim7 := { stood := { row := schemaBackUptoRow, standIns := [], harness := (true, "292eb26343e9575fd77455599ff63638f07721ef70f4c40fe4d41b46cbbf642a"), looks := true }, kinds := [], alts := [], laidByText := true, laidKinds := [.handle], laidTests := true, laidLooks := .later }
def SchemaBackUptoCardSaid : Prop := Claim7.holds Tryd.pinned (.plain (OpenSpec.upto schemaBackSpec)) schemaBackUptoCard

/-- THE SECOND FORM's CARD OF 'intagliolaw05.SchemaTells'. -/
def schemaTellsUptoCard : Claim7 := { stood := { row := schemaTellsUptoRow, standIns := [], harness := (true, "292eb26343e9575fd77455599ff63638f07721ef70f4c40fe4d41b46cbbf642a"), looks := true }, kinds := [], alts := [], laidByText := true, laidKinds := [.handle], laidTests := true, laidLooks := .later }
def SchemaTellsUptoCardSaid : Prop := Claim7.holds Tryd.pinned (.plain (OpenSpec.upto schemaTellsSpec)) schemaTellsUptoCard

/-- THE SECOND FORM's CARD OF 'intagliolaw13.ControlApart'. -/
def controlApartUptoCard : Claim7 := { stood := { row := controlApartUptoRow, standIns := [], harness := (true, "292eb26343e9575fd77455599ff63638f07721ef70f4c40fe4d41b46cbbf642a"), looks := true }, kinds := [], alts := [], laidByText := true, laidKinds := [.handle], laidTests := true, laidLooks := .later }
def ControlApartUptoCardSaid : Prop := Claim7.holds Tryd.pinned (.plain (OpenSpec.upto controlApartSpec)) controlApartUptoCard

/-- THE SECOND FORM's CARD OF 'intagliolaw13.ControlCounts'. -/
def controlCountsUptoCard : Claim7 := { stood := { row := controlCountsUptoRow, standIns := [], harness := (true, "292eb26343e9575fd77455599ff63638f07721ef70f4c40fe4d41b46cbbf642a"), looks := true }, kinds := [], alts := [], laidByText := true, laidKinds := [.handle], laidTests := true, laidLooks := .later }
def ControlCountsUptoCardSaid : Prop := Claim7.holds Tryd.pinned (.plain (OpenSpec.upto controlCountsSpec)) controlCountsUptoCard

/-- THE SECOND FORM's CARD OF 'intagliolaw13.ControlAll'. -/
def controlAllUptoCard : Claim7 := { stood := { row := controlAllUptoRow, standIns := [], harness := (true, "292eb26343e9575fd77455599ff63638f07721ef70f4c40fe4d41b46cbbf642a"), looks := true }, kinds := [], alts := [], laidByText := true, laidKinds := [.handle], laidTests := true, laidLooks := .later }
def ControlAllUptoCardSaid : Prop := Claim7.holds Tryd.pinned (.plain (OpenSpec.upto controlAllSpec)) controlAllUptoCard

/-- THE SECOND FORM's CARD OF 'intagliolaw09.LookNil'. -/
def lookNilUptoCard : Claim7 := { stood := { row := lookNilUptoRow, standIns := [], harness := (true, "292eb26343e9575fd77455599ff63638f07721ef70f4c40fe4d41b46cbbf642a"), looks := true }, kinds := [], alts := [], laidByText := true, laidKinds := [.handle], laidTests := true, laidLooks := .later }
def LookNilUptoCardSaid : Prop := Claim7.holds Tryd.pinned (.plain (OpenSpec.upto lookNilSpec)) lookNilUptoCard
end Rows
end Go.Proofs.YtbhnbjaafejcjaaDoor

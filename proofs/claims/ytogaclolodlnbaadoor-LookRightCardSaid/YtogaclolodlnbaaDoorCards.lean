/-
  DERIVED. GIVEN WITH THE SEED: THE CARDS: each row of YtogaclolodlnbaaDoorRows.lean that lists a variable, with what it lists TIED to the program's text (the seventh form; the later family's looks); each row that meets fmt, with fmt's text TOLD by the authors' own Lean function (tested against real Go, not proved from fmt's source: count such statements apart). THE CARD IS WHAT COUNTS. Prove the row's statement (the work); the ties are given (YtogaclolodlnbaaDoorTie.lean); close each card by the builder's one call (the guide's Derived/Test/ToyasCard.lean, 'card_holds'). Laid BY PROGRAM, IN A SANDBOX (cutbox-door.mjs). By AI agents, Wed Nov 11 2026. No macro, syntax, notation, axiom, sorry.
-/
import Derived.Test.YtogaclolodlnbaaDoorRows
import GoSem.ClaimSeven
namespace Go.Proofs.YtogaclolodlnbaaDoor
namespace Rows

/-- THE TIED CARD OF 'intagliolaw08.ValidBuilt'. -/
def validBuiltCard : Claim7 := { stood := { row := validBuiltRow, standIns := [], harness := (true, "aac04d5800c0736535e82a645757ca538ed165102e1b03f2c121a7655a0abc64"), looks := true }, kinds := [], alts := [], laidByText := true, laidKinds := [.handle], laidTests := true, laidLooks := .later }
def ValidBuiltCardSaid : Prop := Claim7.holds Tryd.pinned (.plain (OpenSpec.ofChange validBuiltSpec)) validBuiltCard

/-- THE TIED CARD OF 'intagliolaw08.ValidEnds'. -/
def validEndsCard : Claim7 := { stood := { row := validEndsRow, standIns := [], harness := (true, "aac04d5800c0736535e82a645757ca538ed165102e1b03f2c121a7655a0abc64"), looks := true }, kinds := [], alts := [], laidByText := true, laidKinds := [.handle], laidTests := true, laidLooks := .later }
def ValidEndsCardSaid : Prop := Claim7.holds Tryd.pinned (.plain (OpenSpec.ofChange validEndsSpec)) validEndsCard

/-- THE TIED CARD OF 'intagliolaw08.ValidCut'. -/
def validCutCard : Claim7 := { stood := { row := validCutRow, standIns := [], harness := (true, "aac04d5800c0736535e82a645757ca538ed165102e1b03f2c121a7655a0abc64"), looks := true }, kinds := [], alts := [], laidByText := true, laidKinds := [.handle], laidTests := true, laidLooks := .later }
def ValidCutCardSaid : Prop := Claim7.holds Tryd.pinned (.plain (OpenSpec.ofChange validCutSpec)) validCutCard

/-- THE TIED CARD OF 'intagliolaw07.BuildTells'. -/
def buildTellsCard : Claim7 := { stood := { row := buildTellsRow, standIns := [], harness := (true, "aac04d5800c0736535e82a645757ca538ed165102e1b03f2c121a7655a0abc64"), looks := true }, kinds := [], alts := [], laidByText := true, laidKinds := [.handle], laidTests := true, laidLooks := .later }
def BuildTellsCardSaid : Prop := Claim7.holds Tryd.pinned (.plain (OpenSpec.ofChange buildTellsSpec)) buildTellsCard

/-- THE TIED CARD OF 'intagliolaw07.BuildOnce'. -/
def buildOnceCard : Claim7 := { stood := { row := buildOnceRow, standIns := [], harness := (true, "aac04d5800c0736535e82a645757ca538ed165102e1b03f2c121a7655a0abc64"), looks := true }, kinds := [], alts := [], laidByText := true, laidKinds := [.handle], laidTests := true, laidLooks := .later }
def BuildOnceCardSaid : Prop := Claim7.holds Tryd.pinned (.plain (OpenSpec.ofChange buildOnceSpec)) buildOnceCard

/-- THE TIED CARD OF 'intagliolaw07.BuildLong'. -/
def buildLongCard : Claim7 := { stood := { row := buildLongRow, standIns := [], harness := (true, "aac04d5800c0736535e82a645757ca538ed165102e1b03f2c121a7655a0abc64"), looks := true }, kinds := [], alts := [], laidByText := true, laidKinds := [.handle], laidTests := true, laidLooks := .later }
def BuildLongCardSaid : Prop := Claim7.holds Tryd.pinned (.plain (OpenSpec.ofChange buildLongSpec)) buildLongCard

/-- THE TIED CARD OF 'intagliolaw07.BuildSizes'. -/
def buildSizesCard : Claim7 := { stood := { row := buildSizesRow, standIns := [], harness := (true, "aac04d5800c0736535e82a645757ca538ed165102e1b03f2c121a7655a0abc64"), looks := true }, kinds := [], alts := [], laidByText := true, laidKinds := [.handle], laidTests := true, laidLooks := .later }
def BuildSizesCardSaid : Prop := Claim7.holds Tryd.pinned (.plain (OpenSpec.ofChange buildSizesSpec)) buildSizesCard

/-- THE TIED CARD OF 'intagliolaw07.BuildApart'. -/
def buildApartCard : Claim7 := { stood := { row := buildApartRow, standIns := [], harness := (true, "aac04d5800c0736535e82a645757ca538ed165102e1b03f2c121a7655a0abc64"), looks := true }, kinds := [], alts := [], laidByText := true, laidKinds := [.handle], laidTests := true, laidLooks := .later }
def BuildApartCardSaid : Prop := Claim7.holds Tryd.pinned (.plain (OpenSpec.ofChange buildApartSpec)) buildApartCard

/-- THE TIED CARD OF 'intagliolaw08.ValidTells'. -/
def validTellsCard : Claim7 := { stood := { row := validTellsRow, standIns := [], harness := (true, "aac04d5800c0736535e82a645757ca538ed165102e1b03f2c121a7655a0abc64"), looks := true }, kinds := [], alts := [], laidByText := true, laidKinds := [.handle], laidTests := true, laidLooks := .later }
def ValidTellsCardSaid : Prop := Claim7.holds Tryd.pinned (.plain (OpenSpec.ofChange validTellsSpec)) validTellsCard

/-- THE TIED CARD OF 'intagliolaw08.ValidKeeps'. -/
def validKeepsCard : Claim7 := { stood := { row := validKeepsRow, standIns := [], harness := (true, "aac04d5800c0736535e82a645757ca538ed165102e1b03f2c121a7655a0abc64"), looks := true }, kinds := [], alts := [], laidByText := true, laidKinds := [.handle], laidTests := true, laidLooks := .later }
def ValidKeepsCardSaid : Prop := Claim7.holds Tryd.pinned (.plain (OpenSpec.ofChange validKeepsSpec)) validKeepsCard

/-- THE TIED CARD OF 'intagliolaw09.LookBack'. -/
def lookBackCard : Claim7 := { stood := { row := lookBackRow, standIns := [], harness := (true, "aac04d5800c0736535e82a645757ca538ed165102e1b03f2c121a7655a0abc64"), looks := true }, kinds := [], alts := [], laidByText := true, laidKinds := [.handle], laidTests := true, laidLooks := .later }
def LookBackCardSaid : Prop := Claim7.holds Tryd.pinned (.plain (OpenSpec.ofChange lookBackSpec)) lookBackCard

/-- THE TIED CARD OF 'intagliolaw09.LookRight'. -/
def lookRightCard : Claim7 := { stood := { row := lookRightRow, standIns := [], harness := (true, "aac04d5800c0736535e82a645757ca538ed165102e1b03f2c121a7655a0abc64"), looks := true }, kinds := [], alts := [], laidByText := true, laidKinds := [.handle], laidTests := true, laidLooks := .later }
def LookRightCardSaid : Prop := Claim7.holds Tryd.pinned (.plain (OpenSpec.ofChange lookRightSpec)) lookRightCard

/-- THE TIED CARD OF 'intagliolaw09.LookAsks'. -/
def lookAsksCard : Claim7 := { stood := { row := lookAsksRow, standIns := [], harness := (true, "aac04d5800c0736535e82a645757ca538ed165102e1b03f2c121a7655a0abc64"), looks := true }, kinds := [], alts := [], laidByText := true, laidKinds := [.handle], laidTests := true, laidLooks := .later }
def LookAsksCardSaid : Prop := Claim7.holds Tryd.pinned (.plain (OpenSpec.ofChange lookAsksSpec)) lookAsksCard

/-- THE SECOND FORM's CARD OF 'intagliolaw08.ValidBuilt'. -/
def validBuiltUptoCard : Claim7 := { stood := { row := validBuiltUptoRow, standIns := [], harness := (true, "aac04d5800c0736535e82a645757ca538ed165102e1b03f2c121a7655a0abc64"), looks := true }, kinds := [], alts := [], laidByText := true, laidKinds := [.handle], laidTests := true, laidLooks := .later }
def ValidBuiltUptoCardSaid : Prop := Claim7.holds Tryd.pinned (.plain (OpenSpec.upto validBuiltSpec)) validBuiltUptoCard

/-- THE SECOND FORM's CARD OF 'intagliolaw08.ValidEnds'. -/
def validEndsUptoCard : Claim7 := { stood := { row := validEndsUptoRow, standIns := [], harness := (true, "aac04d5800c0736535e82a645757ca538ed165102e1b03f2c121a7655a0abc64"), looks := true }, kinds := [], alts := [], laidByText := true, laidKinds := [.handle], laidTests := true, laidLooks := .later }
def ValidEndsUptoCardSaid : Prop := Claim7.holds Tryd.pinned (.plain (OpenSpec.upto validEndsSpec)) validEndsUptoCard

/-- THE SECOND FORM's CARD OF 'intagliolaw08.ValidCut'. -/
def validCutUptoCard : Claim7 := { stood := { row := validCutUptoRow, standIns := [], harness := (true, "aac04d5800c0736535e82a645757ca538ed165102e1b03f2c121a7655a0abc64"), looks := true }, kinds := [], alts := [], laidByText := true, laidKinds := [.handle], laidTests := true, laidLooks := .later }
def ValidCutUptoCardSaid : Prop := Claim7.holds Tryd.pinned (.plain (OpenSpec.upto validCutSpec)) validCutUptoCard

/-- THE SECOND FORM's CARD OF 'intagliolaw07.BuildTells'. -/
def buildTellsUptoCard : Claim7 := { stood := { row := buildTellsUptoRow, standIns := [], harness := (true, "aac04d5800c0736535e82a645757ca538ed165102e1b03f2c121a7655a0abc64"), looks := true }, kinds := [], alts := [], laidByText := true, laidKinds := [.handle], laidTests := true, laidLooks := .later }
def BuildTellsUptoCardSaid : Prop := Claim7.holds Tryd.pinned (.plain (OpenSpec.upto buildTellsSpec)) buildTellsUptoCard

/-- THE SECOND FORM's CARD OF 'intagliolaw07.BuildOnce'. -/
def buildOnceUptoCard : Claim7 := { stood := { row := buildOnceUptoRow, standIns := [], harness := (true, "aac04d5800c0736535e82a645757ca538ed165102e1b03f2c121a7655a0abc64"), looks := true }, kinds := [], alts := [], laidByText := true, laidKinds := [.handle], laidTests := true, laidLooks := .later }
def BuildOnceUptoCardSaid : Prop := Claim7.holds Tryd.pinned (.plain (OpenSpec.upto buildOnceSpec)) buildOnceUptoCard

/-- THE SECOND FORM's CARD OF 'intagliolaw07.BuildLong'. -/
def buildLongUptoCard : Claim7 := { stood := { row := buildLongUptoRow, standIns := [], harness := (true, "aac04d5800c0736535e82a645757ca538ed165102e1b03f2c121a7655a0abc64"), looks := true }, kinds := [], alts := [], laidByText := true, laidKinds := [.handle], laidTests := true, laidLooks := .later }
def BuildLongUptoCardSaid : Prop := Claim7.holds Tryd.pinned (.plain (OpenSpec.upto buildLongSpec)) buildLongUptoCard

/-- THE SECOND FORM's CARD OF 'intagliolaw07.BuildSizes'. -/
def buildSizesUptoCard : Claim7 := { stood := { row := buildSizesUptoRow, standIns := [], harness := (true, "aac04d5800c0736535e82a645757ca538ed165102e1b03f2c121a7655a0abc64"), looks := true }, kinds := [], alts := [], laidByText := true, laidKinds := [.handle], laidTests := true, laidLooks := .later }
def BuildSizesUptoCardSaid : Prop := Claim7.holds Tryd.pinned (.plain (OpenSpec.upto buildSizesSpec)) buildSizesUptoCard

/-- THE SECOND FORM's CARD OF 'intagliolaw07.BuildApart'. -/
def buildApartUptoCard : Claim7 := { stood := { row := buildApartUptoRow, standIns := [], harness := (true, "aac04d5800c0736535e82a645757ca538ed165102e1b03f2c121a7655a0abc64"), looks := true }, kinds := [], alts := [], laidByText := true, laidKinds := [.handle], laidTests := true, laidLooks := .later }
def BuildApartUptoCardSaid : Prop := Claim7.holds Tryd.pinned (.plain (OpenSpec.upto buildApartSpec)) buildApartUptoCard

/-- THE SECOND FORM's CARD OF 'intagliolaw08.ValidTells'. -/
def validTellsUptoCard : Claim7 := { stood := { row := validTellsUptoRow, standIns := [], harness := (true, "aac04d5800c0736535e82a645757ca538ed165102e1b03f2c121a7655a0abc64"), looks := true }, kinds := [], alts := [], laidByText := true, laidKinds := [.handle], laidTests := true, laidLooks := .later }
def ValidTellsUptoCardSaid : Prop := Claim7.holds Tryd.pinned (.plain (OpenSpec.upto validTellsSpec)) validTellsUptoCard

/-- THE SECOND FORM's CARD OF 'intagliolaw08.ValidKeeps'. -/
def validKeepsUptoCard : Claim7 := { stood := { row := validKeepsUptoRow, standIns := [], harness := (true, "aac04d5800c0736535e82a645757ca538ed165102e1b03f2c121a7655a0abc64"), looks := true }, kinds := [], alts := [], laidByText := true, laidKinds := [.handle], laidTests := true, laidLooks := .later }
def ValidKeepsUptoCardSaid : Prop := Claim7.holds Tryd.pinned (.plain (OpenSpec.upto validKeepsSpec)) validKeepsUptoCard

/-- THE SECOND FORM's CARD OF 'intagliolaw09.LookBack'. -/
def lookBackUptoCard : Claim7 := { stood := { row := lookBackUptoRow, standIns := [], harness := (true, "aac04d5800c0736535e82a645757ca538ed165102e1b03f2c121a7655a0abc64"), looks := true }, kinds := [], alts := [], laidByText := true, laidKinds := [.handle], laidTests := true, laidLooks := .later }
def LookBackUptoCardSaid : Prop := Claim7.holds Tryd.pinned (.plain (OpenSpec.upto lookBackSpec)) lookBackUptoCard

/-- THE SECOND FORM's CARD OF 'intagliolaw09.LookRight'. -/
def lookRightUptoCard : Claim7 := { stood := { row := lookRightUptoRow, standIns := [], harness := (true, "aac04d5800c0736535e82a645757ca538ed165102e1b03f2c121a7655a0abc64"), looks := true }, kinds := [], alts := [], laidByText := true, laidKinds := [.handle], laidTests := true, laidLooks := .later }
def LookRightUptoCardSaid : Prop := Claim7.holds Tryd.pinned (.plain (OpenSpec.upto lookRightSpec)) lookRightUptoCard

/-- THE SECOND FORM's CARD OF 'intagliolaw09.LookAsks'. -/
def lookAsksUptoCard : Claim7 := { stood := { row := lookAsksUptoRow, standIns := [], harness := (true, "aac04d5800c0736535e82a645757ca538ed165102e1b03f2c121a7655a0abc64"), looks := true }, kinds := [], alts := [], laidByText := true, laidKinds := [.handle], laidTests := true, laidLooks := .later }
def LookAsksUptoCardSaid : Prop := Claim7.holds Tryd.pinned (.plain (OpenSpec.upto lookAsksSpec)) lookAsksUptoCard
end Rows
end Go.Proofs.YtogaclolodlnbaaDoor

/-
  DERIVED. GIVEN WITH THE SEED: THE CARDS: each row of YtppdbadigecegaaDoorRows.lean that lists a variable, with what it lists TIED to the program's text (the seventh form; the later family's looks); each row that meets fmt, with fmt's text TOLD by the authors' own Lean function (tested against real Go, not proved from fmt's source: count such statements apart). THE CARD IS WHAT COUNTS. Prove the row's statement (the work); the ties are given (YtppdbadigecegaaDoorTie.lean); close each card by the builder's one call (the guide's Derived/Test/ToyasCard.lean, 'card_holds'). Laid BY PROGRAM, IN A SANDBOX (cutbox-door.mjs). By AI agents, Wed Nov 11 2026. No macro, syntax, notation, axiom, sorry.
-/
import Derived.Test.YtppdbadigecegaaDoorRows
import GoSem.ClaimSeven
namespace Go.Proofs.YtppdbadigecegaaDoor
namespace Rows

/-- THE TIED CARD OF 'intagliolaw01.CauseIs'. -/
def causeIsCard : Claim7 := { stood := { row := causeIsRow, standIns := [], harness := (true, "2c6333e85ba006b050bf9ea9d361839edfd036304aaf77336091ad094f9da77f"), looks := true }, kinds := [], alts := [], laidByText := true, laidKinds := [.handle], laidTests := true, laidLooks := .later }
def CauseIsCardSaid : Prop := Claim7.holds Tryd.pinned (.plain (OpenSpec.ofChange causeIsSpec)) causeIsCard

/-- THE TIED CARD OF 'intagliolaw01.CauseTells'. -/
def causeTellsCard : Claim7 := { stood := { row := causeTellsRow, standIns := [], harness := (true, "2c6333e85ba006b050bf9ea9d361839edfd036304aaf77336091ad094f9da77f"), looks := true }, kinds := [], alts := [], laidByText := true, laidKinds := [.handle], laidTests := true, laidLooks := .later }
def CauseTellsCardSaid : Prop := Claim7.holds Tryd.pinned (.plain (OpenSpec.ofChange causeTellsSpec)) causeTellsCard

/-- THE TIED CARD OF 'intagliolaw01.CauseChains'. -/
def causeChainsCard : Claim7 := { stood := { row := causeChainsRow, standIns := [], harness := (true, "2c6333e85ba006b050bf9ea9d361839edfd036304aaf77336091ad094f9da77f"), looks := true }, kinds := [], alts := [], laidByText := true, laidKinds := [.handle], laidTests := true, laidLooks := .later }
def CauseChainsCardSaid : Prop := Claim7.holds Tryd.pinned (.plain (OpenSpec.ofChange causeChainsSpec)) causeChainsCard

/-- THE TIED CARD OF 'intagliolaw01.CauseNone'. -/
def causeNoneCard : Claim7 := { stood := { row := causeNoneRow, standIns := [], harness := (true, "2c6333e85ba006b050bf9ea9d361839edfd036304aaf77336091ad094f9da77f"), looks := true }, kinds := [], alts := [], laidByText := true, laidKinds := [.handle], laidTests := true, laidLooks := .later }
def CauseNoneCardSaid : Prop := Claim7.holds Tryd.pinned (.plain (OpenSpec.ofChange causeNoneSpec)) causeNoneCard

/-- THE SECOND FORM's CARD OF 'intagliolaw01.CauseIs'. -/
def causeIsUptoCard : Claim7 := { stood := { row := causeIsUptoRow, standIns := [], harness := (true, "2c6333e85ba006b050bf9ea9d361839edfd036304aaf77336091ad094f9da77f"), looks := true }, kinds := [], alts := [], laidByText := true, laidKinds := [.handle], laidTests := true, laidLooks := .later }
def CauseIsUptoCardSaid : Prop := Claim7.holds Tryd.pinned (.plain (OpenSpec.upto causeIsSpec)) causeIsUptoCard

/-- THE SECOND FORM's CARD OF 'intagliolaw01.CauseTells'. -/
def causeTellsUptoCard : Claim7 := { stood := { row := causeTellsUptoRow, standIns := [], harness := (true, "2c6333e85ba006b050bf9ea9d361839edfd036304aaf77336091ad094f9da77f"), looks := true }, kinds := [], alts := [], laidByText := true, laidKinds := [.handle], laidTests := true, laidLooks := .later }
def CauseTellsUptoCardSaid : Prop := Claim7.holds Tryd.pinned (.plain (OpenSpec.upto causeTellsSpec)) causeTellsUptoCard

/-- THE SECOND FORM's CARD OF 'intagliolaw01.CauseChains'. -/
def causeChainsUptoCard : Claim7 := { stood := { row := causeChainsUptoRow, standIns := [], harness := (true, "2c6333e85ba006b050bf9ea9d361839edfd036304aaf77336091ad094f9da77f"), looks := true }, kinds := [], alts := [], laidByText := true, laidKinds := [.handle], laidTests := true, laidLooks := .later }
def CauseChainsUptoCardSaid : Prop := Claim7.holds Tryd.pinned (.plain (OpenSpec.upto causeChainsSpec)) causeChainsUptoCard

/-- THE SECOND FORM's CARD OF 'intagliolaw01.CauseNone'. -/
def causeNoneUptoCard : Claim7 := { stood := { row := causeNoneUptoRow, standIns := [], harness := (true, "2c6333e85ba006b050bf9ea9d361839edfd036304aaf77336091ad094f9da77f"), looks := true }, kinds := [], alts := [], laidByText := true, laidKinds := [.handle], laidTests := true, laidLooks := .later }
def CauseNoneUptoCardSaid : Prop := Claim7.holds Tryd.pinned (.plain (OpenSpec.upto causeNoneSpec)) causeNoneUptoCard
end Rows
end Go.Proofs.YtppdbadigecegaaDoor

/-
  NARROWER THAN 'FOR EVERY INPUT', by the rows' own cells (each row's printed sentence says how): ControlTells: laid · SchemaSpoilt: laid · SchemaReads: laid · SchemaBack: laid · SchemaTells: laid · ControlStill: laid · ControlApart: laid · ControlCounts: laid · ControlGoes: laid · ControlAll: laid.
  DERIVED. THE GIVEN ROWS OF THIS SEAT. 10 by the template 'for every input the law returns true; each argument reads behind the call as it read before'; 0 by the template 'total and deterministic' (their statements: YtcgnflalcglfdaaDoorTotals.lean).
  GIVEN WITH THE SEED: the statements are not yours to turn. If you find one false, say at which input.
  Laid BY PROGRAM, IN A SANDBOX (cutbox-rows.mjs): the forced cells as the released guide's own fill.sh prints them over the translation 2eacb89007118c13… (all of the seat's roots in one cut). By AI agents, Wed Nov 11 2026. No macro, syntax, notation, axiom, sorry.
-/
import Derived.Test.YtcgnflalcglfdaaDoorChecked
import GoSem.Claim
import GoSem.ClaimJoined
import GoSem.ClaimMapViews
import Derived.JoinedTies
import Derived.KernelRfl
namespace Go.Proofs.YtcgnflalcglfdaaDoor
/- THE CELL 'sum', in the pinned program and in every row, IS THE sha256 OF THE DUMP (.gsa) THAT YtcgnflalcglfdaaDoorProg.lean LOADS. Nothing in Lean hashes anything: it is a label: what it is worth is what the hold of that sum in a sandbox is worth. -/
noncomputable def Tryd.pinned : Pinned := { name := "ytcgnflalcglfdaadoor", sum := "2eacb89007118c13ef130c21c531dd1be6073806fdd431c329e74fa8c3078211", checked := Tryd.checked }
namespace Rows
def none {H : Type} : Left H := { results := [], args := [] }

/- WHAT THE LISTED PACKAGE-LEVEL VARIABLES READ AS WHEN THE CALL BEGINS. Each datum BY PROGRAM (the guide's laid-datum.mjs) off the statement by which the dump's own 'gosem.cut.vars' lays the variable. In a bare row this is a premise. The card (YtcgnflalcglfdaaDoorCards.lean) ties it to the program's text. -/
def laid_errors_errorType {H : Type} : DataW H := .iface "internal/reflectlite.rtype" (.agg [.ptr (.lit (.string [101, 114, 114, 111, 114]))])

/-- 'intagliolaw13.ControlTells': WHATEVER THE INPUT: true; the input reads as it did. -/
def controlTellsSpec : ChangeSpec := { name := "controlTells", fn := fun _ => fun
  | [d1, d2] => { results := [.lit (.bool true)], args := [d1, d2] }
  | _ => none }
def controlTellsRow : OpenClaim := { program := "ytcgnflalcglfdaadoor", sum := "2eacb89007118c13ef130c21c531dd1be6073806fdd431c329e74fa8c3078211", func := "intaglio/intagliolaw13.ControlTells", spec := "controlTells", inPlace := ["internal/reflectlite.ValueOf", "(internal/reflectlite.Value).Type", "(internal/reflectlite.Value).IsNil", "internal/reflectlite.TypeOf", "(internal/reflectlite.Value).Elem", "(internal/reflectlite.Value).Set"], unfollowed := true, recurses := true, named := ["errors.errorType"], apart := false, laid := [("errors.errorType", laid_errors_errorType)] }
def ControlTellsSaid : Prop := controlTellsRow.holds Tryd.pinned (OpenSpec.ofChange controlTellsSpec)

/-- ITS FALSE NEIGHBOUR: 'it returns false'. Refute it at one input. -/
def controlTellsWrong : ChangeSpec := { name := "controlTells", fn := fun _ => fun
  | [d1, d2] => { results := [.lit (.bool false)], args := [d1, d2] }
  | _ => none }
def ControlTellsWrongFalsely : Prop := controlTellsRow.holds Tryd.pinned (OpenSpec.ofChange controlTellsWrong)

/-- 'intagliolaw05.SchemaSpoilt': WHATEVER THE INPUT: true; the input reads as it did. -/
def schemaSpoiltSpec : ChangeSpec := { name := "schemaSpoilt", fn := fun _ => fun
  | [d1, d2, d3] => { results := [.lit (.bool true)], args := [d1, d2, d3] }
  | _ => none }
def schemaSpoiltRow : OpenClaim := { program := "ytcgnflalcglfdaadoor", sum := "2eacb89007118c13ef130c21c531dd1be6073806fdd431c329e74fa8c3078211", func := "intaglio/intagliolaw05.SchemaSpoilt", spec := "schemaSpoilt", inPlace := ["internal/reflectlite.ValueOf", "(internal/reflectlite.Value).Type", "(internal/reflectlite.Value).IsNil", "internal/reflectlite.TypeOf", "(internal/reflectlite.Value).Elem", "(internal/reflectlite.Value).Set"], unfollowed := true, recurses := true, named := ["errors.errorType"], apart := false, laid := [("errors.errorType", laid_errors_errorType)] }
def SchemaSpoiltSaid : Prop := schemaSpoiltRow.holds Tryd.pinned (OpenSpec.ofChange schemaSpoiltSpec)

/-- ITS FALSE NEIGHBOUR: 'it returns false'. Refute it at one input. -/
def schemaSpoiltWrong : ChangeSpec := { name := "schemaSpoilt", fn := fun _ => fun
  | [d1, d2, d3] => { results := [.lit (.bool false)], args := [d1, d2, d3] }
  | _ => none }
def SchemaSpoiltWrongFalsely : Prop := schemaSpoiltRow.holds Tryd.pinned (OpenSpec.ofChange schemaSpoiltWrong)

/-- 'intagliolaw05.SchemaReads': WHATEVER THE INPUT: true; the input reads as it did. -/
def schemaReadsSpec : ChangeSpec := { name := "schemaReads", fn := fun _ => fun
  | [d1, d2, d3] => { results := [.lit (.bool true)], args := [d1, d2, d3] }
  | _ => none }
def schemaReadsRow : OpenClaim := { program := "ytcgnflalcglfdaadoor", sum := "2eacb89007118c13ef130c21c531dd1be6073806fdd431c329e74fa8c3078211", func := "intaglio/intagliolaw05.SchemaReads", spec := "schemaReads", inPlace := ["internal/reflectlite.ValueOf", "(internal/reflectlite.Value).Type", "(internal/reflectlite.Value).IsNil", "internal/reflectlite.TypeOf", "(internal/reflectlite.Value).Elem", "(internal/reflectlite.Value).Set"], unfollowed := true, recurses := true, named := ["errors.errorType"], apart := false, laid := [("errors.errorType", laid_errors_errorType)] }
def SchemaReadsSaid : Prop := schemaReadsRow.holds Tryd.pinned (OpenSpec.ofChange schemaReadsSpec)

/-- ITS FALSE NEIGHBOUR: 'it returns false'. Refute it at one input. -/
def schemaReadsWrong : ChangeSpec := { name := "schemaReads", fn := fun _ => fun
  | [d1, d2, d3] => { results := [.lit (.bool false)], args := [d1, d2, d3] }
  | _ => none }
def SchemaReadsWrongFalsely : Prop := schemaReadsRow.holds Tryd.pinned (OpenSpec.ofChange schemaReadsWrong)

/-- 'intagliolaw05.SchemaBack': WHATEVER THE INPUT: true; the input reads as it did. -/
def schemaBackSpec : ChangeSpec := { name := "schemaBack", fn := fun _ => fun
  | [d1, d2] => { results := [.lit (.bool true)], args := [d1, d2] }
  | _ => none }
def schemaBackRow : OpenClaim := { program := "ytcgnflalcglfdaadoor", sum := "2eacb89007118c13ef130c21c531dd1be6073806fdd431c329e74fa8c3078211", func := "intaglio/intagliolaw05.SchemaBack", spec := "schemaBack", inPlace := ["internal/reflectlite.ValueOf", "(internal/reflectlite.Value).Type", "(internal/reflectlite.Value).IsNil", "internal/reflectlite.TypeOf", "(internal/reflectlite.Value).Elem", "(internal/reflectlite.Value).Set"], unfollowed := true, recurses := true, named := ["errors.errorType"], apart := false, laid := [("errors.errorType", laid_errors_errorType)] }
def SchemaBackSaid : Prop := schemaBackRow.holds Tryd.pinned (OpenSpec.ofChange schemaBackSpec)

/-- ITS FALSE NEIGHBOUR: 'it returns false'. Refute it at one input. -/
def schemaBackWrong : ChangeSpec := { name := "schemaBack", fn := fun _ => fun
  | [d1, d2] => { results := [.lit (.bool false)], args := [d1, d2] }
  | _ => none }
def SchemaBackWrongFalsely : Prop := schemaBackRow.holds Tryd.pinned (OpenSpec.ofChange schemaBackWrong)

/-- 'intagliolaw05.SchemaTells': WHATEVER THE INPUT: true; the input reads as it did. -/
def schemaTellsSpec : ChangeSpec := { name := "schemaTells", fn := fun _ => fun
  | [d1, d2, d3] => { results := [.lit (.bool true)], args := [d1, d2, d3] }
  | _ => none }
def schemaTellsRow : OpenClaim := { program := "ytcgnflalcglfdaadoor", sum := "2eacb89007118c13ef130c21c531dd1be6073806fdd431c329e74fa8c3078211", func := "intaglio/intagliolaw05.SchemaTells", spec := "schemaTells", inPlace := ["internal/reflectlite.ValueOf", "(internal/reflectlite.Value).Type", "(internal/reflectlite.Value).IsNil", "internal/reflectlite.TypeOf", "(internal/reflectlite.Value).Elem", "(internal/reflectlite.Value).Set"], unfollowed := true, recurses := true, named := ["errors.errorType"], apart := false, laid := [("errors.errorType", laid_errors_errorType)] }
def SchemaTellsSaid : Prop := schemaTellsRow.holds Tryd.pinned (OpenSpec.ofChange schemaTellsSpec)

/-- ITS FALSE NEIGHBOUR: 'it returns false'. Refute it at one input. -/
def schemaTellsWrong : ChangeSpec := { name := "schemaTells", fn := fun _ => fun
  | [d1, d2, d3] => { results := [.lit (.bool false)], args := [d1, d2, d3] }
  | _ => none }
def SchemaTellsWrongFalsely : Prop := schemaTellsRow.holds Tryd.pinned (OpenSpec.ofChange schemaTellsWrong)

/-- 'intagliolaw13.ControlStill': WHATEVER THE INPUT: true; the input reads as it did. -/
def controlStillSpec : ChangeSpec := { name := "controlStill", fn := fun _ => fun
  | [d1, d2, d3] => { results := [.lit (.bool true)], args := [d1, d2, d3] }
  | _ => none }
def controlStillRow : OpenClaim := { program := "ytcgnflalcglfdaadoor", sum := "2eacb89007118c13ef130c21c531dd1be6073806fdd431c329e74fa8c3078211", func := "intaglio/intagliolaw13.ControlStill", spec := "controlStill", inPlace := ["internal/reflectlite.ValueOf", "(internal/reflectlite.Value).Type", "(internal/reflectlite.Value).IsNil", "internal/reflectlite.TypeOf", "(internal/reflectlite.Value).Elem", "(internal/reflectlite.Value).Set"], unfollowed := true, recurses := true, named := ["errors.errorType"], apart := false, laid := [("errors.errorType", laid_errors_errorType)] }
def ControlStillSaid : Prop := controlStillRow.holds Tryd.pinned (OpenSpec.ofChange controlStillSpec)

/-- ITS FALSE NEIGHBOUR: 'it returns false'. Refute it at one input. -/
def controlStillWrong : ChangeSpec := { name := "controlStill", fn := fun _ => fun
  | [d1, d2, d3] => { results := [.lit (.bool false)], args := [d1, d2, d3] }
  | _ => none }
def ControlStillWrongFalsely : Prop := controlStillRow.holds Tryd.pinned (OpenSpec.ofChange controlStillWrong)

/-- 'intagliolaw13.ControlApart': WHATEVER THE INPUT: true; the input reads as it did. -/
def controlApartSpec : ChangeSpec := { name := "controlApart", fn := fun _ => fun
  | [d1, d2] => { results := [.lit (.bool true)], args := [d1, d2] }
  | _ => none }
def controlApartRow : OpenClaim := { program := "ytcgnflalcglfdaadoor", sum := "2eacb89007118c13ef130c21c531dd1be6073806fdd431c329e74fa8c3078211", func := "intaglio/intagliolaw13.ControlApart", spec := "controlApart", inPlace := ["internal/reflectlite.ValueOf", "(internal/reflectlite.Value).Type", "(internal/reflectlite.Value).IsNil", "internal/reflectlite.TypeOf", "(internal/reflectlite.Value).Elem", "(internal/reflectlite.Value).Set"], unfollowed := true, recurses := true, named := ["errors.errorType"], apart := false, laid := [("errors.errorType", laid_errors_errorType)] }
def ControlApartSaid : Prop := controlApartRow.holds Tryd.pinned (OpenSpec.ofChange controlApartSpec)

/-- ITS FALSE NEIGHBOUR: 'it returns false'. Refute it at one input. -/
def controlApartWrong : ChangeSpec := { name := "controlApart", fn := fun _ => fun
  | [d1, d2] => { results := [.lit (.bool false)], args := [d1, d2] }
  | _ => none }
def ControlApartWrongFalsely : Prop := controlApartRow.holds Tryd.pinned (OpenSpec.ofChange controlApartWrong)

/-- 'intagliolaw13.ControlCounts': WHATEVER THE INPUT: true; the input reads as it did. -/
def controlCountsSpec : ChangeSpec := { name := "controlCounts", fn := fun _ => fun
  | [d1, d2] => { results := [.lit (.bool true)], args := [d1, d2] }
  | _ => none }
def controlCountsRow : OpenClaim := { program := "ytcgnflalcglfdaadoor", sum := "2eacb89007118c13ef130c21c531dd1be6073806fdd431c329e74fa8c3078211", func := "intaglio/intagliolaw13.ControlCounts", spec := "controlCounts", inPlace := ["internal/reflectlite.ValueOf", "(internal/reflectlite.Value).Type", "(internal/reflectlite.Value).IsNil", "internal/reflectlite.TypeOf", "(internal/reflectlite.Value).Elem", "(internal/reflectlite.Value).Set"], unfollowed := true, recurses := true, named := ["errors.errorType"], apart := false, laid := [("errors.errorType", laid_errors_errorType)] }
def ControlCountsSaid : Prop := controlCountsRow.holds Tryd.pinned (OpenSpec.ofChange controlCountsSpec)

/-- ITS FALSE NEIGHBOUR: 'it returns false'. Refute it at one input. -/
def controlCountsWrong : ChangeSpec := { name := "controlCounts", fn := fun _ => fun
  | [d1, d2] => { results := [.lit (.bool false)], args := [d1, d2] }
  | _ => none }
def ControlCountsWrongFalsely : Prop := controlCountsRow.holds Tryd.pinned (OpenSpec.ofChange controlCountsWrong)

/-- 'intagliolaw13.ControlGoes': WHATEVER THE INPUT: true; the input reads as it did. -/
def controlGoesSpec : ChangeSpec := { name := "controlGoes", fn := fun _ => fun
  | [d1, d2, d3] => { results := [.lit (.bool true)], args := [d1, d2, d3] }
  | _ => none }
def controlGoesRow : OpenClaim := { program := "ytcgnflalcglfdaadoor", sum := "2eacb89007118c13ef130c21c531dd1be6073806fdd431c329e74fa8c3078211", func := "intaglio/intagliolaw13.ControlGoes", spec := "controlGoes", inPlace := ["internal/reflectlite.ValueOf", "(internal/reflectlite.Value).Type", "(internal/reflectlite.Value).IsNil", "internal/reflectlite.TypeOf", "(internal/reflectlite.Value).Elem", "(internal/reflectlite.Value).Set"], unfollowed := true, recurses := true, named := ["errors.errorType"], apart := false, laid := [("errors.errorType", laid_errors_errorType)] }
def ControlGoesSaid : Prop := controlGoesRow.holds Tryd.pinned (OpenSpec.ofChange controlGoesSpec)

/-- ITS FALSE NEIGHBOUR: 'it returns false'. Refute it at one input. -/
def controlGoesWrong : ChangeSpec := { name := "controlGoes", fn := fun _ => fun
  | [d1, d2, d3] => { results := [.lit (.bool false)], args := [d1, d2, d3] }
  | _ => none }
def ControlGoesWrongFalsely : Prop := controlGoesRow.holds Tryd.pinned (OpenSpec.ofChange controlGoesWrong)

/-- 'intagliolaw13.ControlAll': WHATEVER THE INPUT: true; the input reads as it did. -/
def controlAllSpec : ChangeSpec := { name := "controlAll", fn := fun _ => fun
  | [d1, d2, d3] => { results := [.lit (.bool true)], args := [d1, d2, d3] }
  | _ => none }
def controlAllRow : OpenClaim := { program := "ytcgnflalcglfdaadoor", sum := "2eacb89007118c13ef130c21c531dd1be6073806fdd431c329e74fa8c3078211", func := "intaglio/intagliolaw13.ControlAll", spec := "controlAll", inPlace := ["internal/reflectlite.ValueOf", "(internal/reflectlite.Value).Type", "(internal/reflectlite.Value).IsNil", "internal/reflectlite.TypeOf", "(internal/reflectlite.Value).Elem", "(internal/reflectlite.Value).Set"], unfollowed := true, recurses := true, named := ["errors.errorType"], apart := false, laid := [("errors.errorType", laid_errors_errorType)] }
def ControlAllSaid : Prop := controlAllRow.holds Tryd.pinned (OpenSpec.ofChange controlAllSpec)

/-- ITS FALSE NEIGHBOUR: 'it returns false'. Refute it at one input. -/
def controlAllWrong : ChangeSpec := { name := "controlAll", fn := fun _ => fun
  | [d1, d2, d3] => { results := [.lit (.bool false)], args := [d1, d2, d3] }
  | _ => none }
def ControlAllWrongFalsely : Prop := controlAllRow.holds Tryd.pinned (OpenSpec.ofChange controlAllWrong)

/- THE SECOND FORM. 'bulk': how many values and letters a reading holds, each counted each time it is reached (what is shared counts as often as it is met; a slice's spare places count too). A statement '..UptoSaid' is the law's where the arguments, and the package variables that the reading takes, are together of bulk at most 1048576: NARROWER than '..Said'. Prove '..Said' where nothing that the law and all that it calls make is longer than what came in: it says more and counts as full. Else prove '..UptoSaid'. A law counts once. -/
mutual
def uptoBulk {H : Type} : DataW H → Nat
  | .lit (.string bytes) => bytes.length + 1
  | .lit _ => 1
  | .nil => 1
  | .ptr d => uptoBulk d + 1
  | .slice elems spare => uptoBulkAll elems + uptoBulkAll spare + 1
  | .agg parts => uptoBulkAll parts + 1
  | .iface _ d => uptoBulk d + 1
  | .map entries => uptoBulkEntries entries + 1
  | .held _ => 1
def uptoBulkAll {H : Type} : List (DataW H) → Nat
  | [] => 0
  | d :: r => uptoBulk d + uptoBulkAll r
def uptoBulkEntries {H : Type} : List (Lit × DataW H) → Nat
  | [] => 0
  | x :: r => uptoBulkEntry x + uptoBulkEntries r
def uptoBulkEntry {H : Type} : Lit × DataW H → Nat
  | (.string bytes, d) => bytes.length + uptoBulk d + 1
  | (_, d) => uptoBulk d + 1
 end
def uptoSmall : (H : Type) → List (DataW H) → Bool := fun _ ds => decide (uptoBulkAll ds ≤ 1048576)
def OpenSpec.upto (s : _root_.Go.ChangeSpec) : _root_.Go.OpenSpec := { _root_.Go.OpenSpec.ofChange s with cond := some uptoSmall }

/-- 'intagliolaw13.ControlTells', WHERE WHAT IT READS IS OF BULK AT MOST 1048576: true; the input reads as it did. -/
def controlTellsUptoRow : OpenClaim := { program := "ytcgnflalcglfdaadoor", sum := "2eacb89007118c13ef130c21c531dd1be6073806fdd431c329e74fa8c3078211", func := "intaglio/intagliolaw13.ControlTells", spec := "controlTells", inPlace := ["internal/reflectlite.ValueOf", "(internal/reflectlite.Value).Type", "(internal/reflectlite.Value).IsNil", "internal/reflectlite.TypeOf", "(internal/reflectlite.Value).Elem", "(internal/reflectlite.Value).Set"], unfollowed := true, recurses := true, named := ["errors.errorType"], apart := false, laid := [("errors.errorType", laid_errors_errorType)], narrowed := true }
def ControlTellsUptoSaid : Prop := controlTellsUptoRow.holds Tryd.pinned (OpenSpec.upto controlTellsSpec)

/-- 'intagliolaw05.SchemaSpoilt', WHERE WHAT IT READS IS OF BULK AT MOST 1048576: true; the input reads as it did. -/
def schemaSpoiltUptoRow : OpenClaim := { program := "ytcgnflalcglfdaadoor", sum := "2eacb89007118c13ef130c21c531dd1be6073806fdd431c329e74fa8c3078211", func := "intaglio/intagliolaw05.SchemaSpoilt", spec := "schemaSpoilt", inPlace := ["internal/reflectlite.ValueOf", "(internal/reflectlite.Value).Type", "(internal/reflectlite.Value).IsNil", "internal/reflectlite.TypeOf", "(internal/reflectlite.Value).Elem", "(internal/reflectlite.Value).Set"], unfollowed := true, recurses := true, named := ["errors.errorType"], apart := false, laid := [("errors.errorType", laid_errors_errorType)], narrowed := true }
def SchemaSpoiltUptoSaid : Prop := schemaSpoiltUptoRow.holds Tryd.pinned (OpenSpec.upto schemaSpoiltSpec)

/-- 'intagliolaw05.SchemaReads', WHERE WHAT IT READS IS OF BULK AT MOST 1048576: true; the input reads as it did. -/
def schemaReadsUptoRow : OpenClaim := { program := "ytcgnflalcglfdaadoor", sum := "2eacb89007118c13ef130c21c531dd1be6073806fdd431c329e74fa8c3078211", func := "intaglio/intagliolaw05.SchemaReads", spec := "schemaReads", inPlace := ["internal/reflectlite.ValueOf", "(internal/reflectlite.Value).Type", "(internal/reflectlite.Value).IsNil", "internal/reflectlite.TypeOf", "(internal/reflectlite.Value).Elem", "(internal/reflectlite.Value).Set"], unfollowed := true, recurses := true, named := ["errors.errorType"], apart := false, laid := [("errors.errorType", laid_errors_errorType)], narrowed := true }
def SchemaReadsUptoSaid : Prop := schemaReadsUptoRow.holds Tryd.pinned (OpenSpec.upto schemaReadsSpec)

/-- 'intagliolaw05.SchemaBack', WHERE WHAT IT READS IS OF BULK AT MOST 1048576: true; the input reads as it did. -/
def schemaBackUptoRow : OpenClaim := { program := "ytcgnflalcglfdaadoor", sum := "2eacb89007118c13ef130c21c531dd1be6073806fdd431c329e74fa8c3078211", func := "intaglio/intagliolaw05.SchemaBack", spec := "schemaBack", inPlace := ["internal/reflectlite.ValueOf", "(internal/reflectlite.Value).Type", "(internal/reflectlite.Value).IsNil", "internal/reflectlite.TypeOf", "(internal/reflectlite.Value).Elem", "(internal/reflectlite.Value).Set"], unfollowed := true, recurses := true, named := ["errors.errorType"], apart := false, laid := [("errors.errorType", laid_errors_errorType)], narrowed := true }
def SchemaBackUptoSaid : Prop := schemaBackUptoRow.holds Tryd.pinned (OpenSpec.upto schemaBackSpec)

/-- 'intagliolaw05.SchemaTells', WHERE WHAT IT READS IS OF BULK AT MOST 1048576: true; the input reads as it did. -/
def schemaTellsUptoRow : OpenClaim := { program := "ytcgnflalcglfdaadoor", sum := "2eacb89007118c13ef130c21c531dd1be6073806fdd431c329e74fa8c3078211", func := "intaglio/intagliolaw05.SchemaTells", spec := "schemaTells", inPlace := ["internal/reflectlite.ValueOf", "(internal/reflectlite.Value).Type", "(internal/reflectlite.Value).IsNil", "internal/reflectlite.TypeOf", "(internal/reflectlite.Value).Elem", "(internal/reflectlite.Value).Set"], unfollowed := true, recurses := true, named := ["errors.errorType"], apart := false, laid := [("errors.errorType", laid_errors_errorType)], narrowed := true }
def SchemaTellsUptoSaid : Prop := schemaTellsUptoRow.holds Tryd.pinned (OpenSpec.upto schemaTellsSpec)

/-- 'intagliolaw13.ControlStill', WHERE WHAT IT READS IS OF BULK AT MOST 1048576: true; the input reads as it did. -/
def controlStillUptoRow : OpenClaim := { program := "ytcgnflalcglfdaadoor", sum := "2eacb89007118c13ef130c21c531dd1be6073806fdd431c329e74fa8c3078211", func := "intaglio/intagliolaw13.ControlStill", spec := "controlStill", inPlace := ["internal/reflectlite.ValueOf", "(internal/reflectlite.Value).Type", "(internal/reflectlite.Value).IsNil", "internal/reflectlite.TypeOf", "(internal/reflectlite.Value).Elem", "(internal/reflectlite.Value).Set"], unfollowed := true, recurses := true, named := ["errors.errorType"], apart := false, laid := [("errors.errorType", laid_errors_errorType)], narrowed := true }
def ControlStillUptoSaid : Prop := controlStillUptoRow.holds Tryd.pinned (OpenSpec.upto controlStillSpec)

/-- 'intagliolaw13.ControlApart', WHERE WHAT IT READS IS OF BULK AT MOST 1048576: true; the input reads as it did. -/
def controlApartUptoRow : OpenClaim := { program := "ytcgnflalcglfdaadoor", sum := "2eacb89007118c13ef130c21c531dd1be6073806fdd431c329e74fa8c3078211", func := "intaglio/intagliolaw13.ControlApart", spec := "controlApart", inPlace := ["internal/reflectlite.ValueOf", "(internal/reflectlite.Value).Type", "(internal/reflectlite.Value).IsNil", "internal/reflectlite.TypeOf", "(internal/reflectlite.Value).Elem", "(internal/reflectlite.Value).Set"], unfollowed := true, recurses := true, named := ["errors.errorType"], apart := false, laid := [("errors.errorType", laid_errors_errorType)], narrowed := true }
def ControlApartUptoSaid : Prop := controlApartUptoRow.holds Tryd.pinned (OpenSpec.upto controlApartSpec)

/-- 'intagliolaw13.ControlCounts', WHERE WHAT IT READS IS OF BULK AT MOST 1048576: true; the input reads as it did. -/
def controlCountsUptoRow : OpenClaim := { program := "ytcgnflalcglfdaadoor", sum := "2eacb89007118c13ef130c21c531dd1be6073806fdd431c329e74fa8c3078211", func := "intaglio/intagliolaw13.ControlCounts", spec := "controlCounts", inPlace := ["internal/reflectlite.ValueOf", "(internal/reflectlite.Value).Type", "(internal/reflectlite.Value).IsNil", "internal/reflectlite.TypeOf", "(internal/reflectlite.Value).Elem", "(internal/reflectlite.Value).Set"], unfollowed := true, recurses := true, named := ["errors.errorType"], apart := false, laid := [("errors.errorType", laid_errors_errorType)], narrowed := true }
def ControlCountsUptoSaid : Prop := controlCountsUptoRow.holds Tryd.pinned (OpenSpec.upto controlCountsSpec)

/-- 'intagliolaw13.ControlGoes', WHERE WHAT IT READS IS OF BULK AT MOST 1048576: true; the input reads as it did. -/
def controlGoesUptoRow : OpenClaim := { program := "ytcgnflalcglfdaadoor", sum := "2eacb89007118c13ef130c21c531dd1be6073806fdd431c329e74fa8c3078211", func := "intaglio/intagliolaw13.ControlGoes", spec := "controlGoes", inPlace := ["internal/reflectlite.ValueOf", "(internal/reflectlite.Value).Type", "(internal/reflectlite.Value).IsNil", "internal/reflectlite.TypeOf", "(internal/reflectlite.Value).Elem", "(internal/reflectlite.Value).Set"], unfollowed := true, recurses := true, named := ["errors.errorType"], apart := false, laid := [("errors.errorType", laid_errors_errorType)], narrowed := true }
def ControlGoesUptoSaid : Prop := controlGoesUptoRow.holds Tryd.pinned (OpenSpec.upto controlGoesSpec)

/-- 'intagliolaw13.ControlAll', WHERE WHAT IT READS IS OF BULK AT MOST 1048576: true; the input reads as it did. -/
def controlAllUptoRow : OpenClaim := { program := "ytcgnflalcglfdaadoor", sum := "2eacb89007118c13ef130c21c531dd1be6073806fdd431c329e74fa8c3078211", func := "intaglio/intagliolaw13.ControlAll", spec := "controlAll", inPlace := ["internal/reflectlite.ValueOf", "(internal/reflectlite.Value).Type", "(internal/reflectlite.Value).IsNil", "internal/reflectlite.TypeOf", "(internal/reflectlite.Value).Elem", "(internal/reflectlite.Value).Set"], unfollowed := true, recurses := true, named := ["errors.errorType"], apart := false, laid := [("errors.errorType", laid_errors_errorType)], narrowed := true }
def ControlAllUptoSaid : Prop := controlAllUptoRow.holds Tryd.pinned (OpenSpec.upto controlAllSpec)

end Rows
end Go.Proofs.YtcgnflalcglfdaaDoor

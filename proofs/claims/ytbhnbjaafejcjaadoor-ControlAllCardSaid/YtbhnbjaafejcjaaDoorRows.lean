/-
  NARROWER THAN 'FOR EVERY INPUT', by the rows' own cells (each row's printed sentence says how): SchemaSpoilt: laid · SchemaReads: laid · SchemaBack: laid · SchemaTells: laid · ControlApart: laid · ControlCounts: laid · ControlAll: laid · LookNil: laid.
  DERIVED. THE GIVEN ROWS OF THIS SEAT. 8 by the template 'for every input the law returns true; each argument reads behind the call as it read before'; 0 by the template 'total and deterministic' (their statements: YtbhnbjaafejcjaaDoorTotals.lean).
  GIVEN WITH THE SEED: the statements are not yours to turn. If you find one false, say at which input.
  Laid BY PROGRAM, IN A SANDBOX (cutbox-rows.mjs): the forced cells as the released guide's own fill.sh prints them over the translation 4ab129dd9d6a7907… (all of the seat's roots in one cut). By AI agents, Wed Nov 11 2026. No macro, syntax, notation, axiom, sorry.
-/
import Derived.Test.YtbhnbjaafejcjaaDoorChecked
import GoSem.Claim
import GoSem.ClaimJoined
import GoSem.ClaimMapViews
import Derived.JoinedTies
import Derived.KernelRfl
namespace Go.Proofs.YtbhnbjaafejcjaaDoor
/- THE CELL 'sum', in the pinned program and in every row, IS THE sha256 OF THE DUMP (.gsa) THAT YtbhnbjaafejcjaaDoorProg.lean LOADS. Nothing in Lean hashes anything: it is a label: what it is worth is what the hold of that sum in a sandbox is worth. -/
noncomputable def Tryd.pinned : Pinned := { name := "ytbhnbjaafejcjaadoor", sum := "4ab129dd9d6a7907dcfcdc7846d31c0f9f5f46384df950fabe409f26f74e40ec", checked := Tryd.checked }
namespace Rows
def none {H : Type} : Left H := { results := [], args := [] }

/- WHAT THE LISTED PACKAGE-LEVEL VARIABLES READ AS WHEN THE CALL BEGINS. Each datum BY PROGRAM (the guide's laid-datum.mjs) off the statement by which the dump's own 'gosem.cut.vars' lays the variable. In a bare row this is a premise. The card (YtbhnbjaafejcjaaDoorCards.lean) ties it to the program's text. -/
def laid_errors_errorType {H : Type} : DataW H := .iface "internal/reflectlite.rtype" (.agg [.ptr (.lit (.string [101, 114, 114, 111, 114]))])

/-- 'intagliolaw05.SchemaSpoilt': WHATEVER THE INPUT: true; the input reads as it did. -/
def schemaSpoiltSpec : ChangeSpec := { name := "schemaSpoilt", fn := fun _ => fun
  | [d1, d2, d3] => { results := [.lit (.bool true)], args := [d1, d2, d3] }
  | _ => none }
def schemaSpoiltRow : OpenClaim := { program := "ytbhnbjaafejcjaadoor", sum := "4ab129dd9d6a7907dcfcdc7846d31c0f9f5f46384df950fabe409f26f74e40ec", func := "intaglio/intagliolaw05.SchemaSpoilt", spec := "schemaSpoilt", inPlace := ["internal/reflectlite.ValueOf", "(internal/reflectlite.Value).Type", "(internal/reflectlite.Value).IsNil", "internal/reflectlite.TypeOf", "(internal/reflectlite.Value).Elem", "(internal/reflectlite.Value).Set"], unfollowed := true, recurses := true, named := ["errors.errorType"], apart := false, laid := [("errors.errorType", laid_errors_errorType)] }
def SchemaSpoiltSaid : Prop := schemaSpoiltRow.holds Tryd.pinned (OpenSpec.ofChange schemaSpoiltSpec)

/-- ITS FALSE NEIGHBOUR: 'it returns false'. Refute it at one input. -/
def schemaSpoiltWrong : ChangeSpec := { name := "schemaSpoilt", fn := fun _ => fun
  | [d1, d2, d3] => { results := [.lit (.bool false)], args := [d1, d2, d3] }
  | _ => none }
def SchemaSpoiltWrongFalsely : Prop := schemaSpoiltRow.holds Tryd.pinned (OpenSpec.ofChange schemaSpoiltWrong)

/-- 'intagliolaw05.SchemaReads': WHATEVER THE INPUT: true; the input reads as it did. -/
def schemaReadsSpec : ChangeSpec := { name := "schemaReads", fn := fun _ => fun
  | [d1, d2, d3] => { results := [.lit (.bool true)], args := [d1, d2, d3] }
  | _ => none }
def schemaReadsRow : OpenClaim := { program := "ytbhnbjaafejcjaadoor", sum := "4ab129dd9d6a7907dcfcdc7846d31c0f9f5f46384df950fabe409f26f74e40ec", func := "intaglio/intagliolaw05.SchemaReads", spec := "schemaReads", inPlace := ["internal/reflectlite.ValueOf", "(internal/reflectlite.Value).Type", "(internal/reflectlite.Value).IsNil", "internal/reflectlite.TypeOf", "(internal/reflectlite.Value).Elem", "(internal/reflectlite.Value).Set"], unfollowed := true, recurses := true, named := ["errors.errorType"], apart := false, laid := [("errors.errorType", laid_errors_errorType)] }
def SchemaReadsSaid : Prop := schemaReadsRow.holds Tryd.pinned (OpenSpec.ofChange schemaReadsSpec)

/-- ITS FALSE NEIGHBOUR: 'it returns false'. Refute it at one input. -/
def schemaReadsWrong : ChangeSpec := { name := "schemaReads", fn := fun _ => fun
  | [d1, d2, d3] => { results := [.lit (.bool false)], args := [d1, d2, d3] }
  | _ => none }
def SchemaReadsWrongFalsely : Prop := schemaReadsRow.holds Tryd.pinned (OpenSpec.ofChange schemaReadsWrong)

/-- 'intagliolaw05.SchemaBack': WHATEVER THE INPUT: true; the input reads as it did. -/
def schemaBackSpec : ChangeSpec := { name := "schemaBack", fn := fun _ => fun
  | [d1, d2] => { results := [.lit (.bool true)], args := [d1, d2] }
  | _ => none }
def schemaBackRow : OpenClaim := { program := "ytbhnbjaafejcjaadoor", sum := "4ab129dd9d6a7907dcfcdc7846d31c0f9f5f46384df950fabe409f26f74e40ec", func := "intaglio/intagliolaw05.SchemaBack", spec := "schemaBack", inPlace := ["internal/reflectlite.ValueOf", "(internal/reflectlite.Value).Type", "(internal/reflectlite.Value).IsNil", "internal/reflectlite.TypeOf", "(internal/reflectlite.Value).Elem", "(internal/reflectlite.Value).Set"], unfollowed := true, recurses := true, named := ["errors.errorType"], apart := false, laid := [("errors.errorType", laid_errors_errorType)] }
def SchemaBackSaid : Prop := schemaBackRow.holds Tryd.pinned (OpenSpec.ofChange schemaBackSpec)

/-- ITS FALSE NEIGHBOUR: 'it returns false'. Refute it at one input. -/
def schemaBackWrong : ChangeSpec := { name := "schemaBack", fn := fun _ => fun
  | [d1, d2] => { results := [.lit (.bool false)], args := [d1, d2] }
  | _ => none }
def SchemaBackWrongFalsely : Prop := schemaBackRow.holds Tryd.pinned (OpenSpec.ofChange schemaBackWrong)

/-- 'intagliolaw05.SchemaTells': WHATEVER THE INPUT: true; the input reads as it did. -/
def schemaTellsSpec : ChangeSpec := { name := "schemaTells", fn := fun _ => fun
  | [d1, d2, d3] => { results := [.lit (.bool true)], args := [d1, d2, d3] }
  | _ => none }
def schemaTellsRow : OpenClaim := { program := "ytbhnbjaafejcjaadoor", sum := "4ab129dd9d6a7907dcfcdc7846d31c0f9f5f46384df950fabe409f26f74e40ec", func := "intaglio/intagliolaw05.SchemaTells", spec := "schemaTells", inPlace := ["internal/reflectlite.ValueOf", "(internal/reflectlite.Value).Type", "(internal/reflectlite.Value).IsNil", "internal/reflectlite.TypeOf", "(internal/reflectlite.Value).Elem", "(internal/reflectlite.Value).Set"], unfollowed := true, recurses := true, named := ["errors.errorType"], apart := false, laid := [("errors.errorType", laid_errors_errorType)] }
def SchemaTellsSaid : Prop := schemaTellsRow.holds Tryd.pinned (OpenSpec.ofChange schemaTellsSpec)

/-- ITS FALSE NEIGHBOUR: 'it returns false'. Refute it at one input. -/
def schemaTellsWrong : ChangeSpec := { name := "schemaTells", fn := fun _ => fun
  | [d1, d2, d3] => { results := [.lit (.bool false)], args := [d1, d2, d3] }
  | _ => none }
def SchemaTellsWrongFalsely : Prop := schemaTellsRow.holds Tryd.pinned (OpenSpec.ofChange schemaTellsWrong)

/-- 'intagliolaw13.ControlApart': WHATEVER THE INPUT: true; the input reads as it did. -/
def controlApartSpec : ChangeSpec := { name := "controlApart", fn := fun _ => fun
  | [d1, d2] => { results := [.lit (.bool true)], args := [d1, d2] }
  | _ => none }
def controlApartRow : OpenClaim := { program := "ytbhnbjaafejcjaadoor", sum := "4ab129dd9d6a7907dcfcdc7846d31c0f9f5f46384df950fabe409f26f74e40ec", func := "intaglio/intagliolaw13.ControlApart", spec := "controlApart", inPlace := ["internal/reflectlite.ValueOf", "(internal/reflectlite.Value).Type", "(internal/reflectlite.Value).IsNil", "internal/reflectlite.TypeOf", "(internal/reflectlite.Value).Elem", "(internal/reflectlite.Value).Set"], unfollowed := true, recurses := true, named := ["errors.errorType"], apart := false, laid := [("errors.errorType", laid_errors_errorType)] }
def ControlApartSaid : Prop := controlApartRow.holds Tryd.pinned (OpenSpec.ofChange controlApartSpec)

/-- ITS FALSE NEIGHBOUR: 'it returns false'. Refute it at one input. -/
def controlApartWrong : ChangeSpec := { name := "controlApart", fn := fun _ => fun
  | [d1, d2] => { results := [.lit (.bool false)], args := [d1, d2] }
  | _ => none }
def ControlApartWrongFalsely : Prop := controlApartRow.holds Tryd.pinned (OpenSpec.ofChange controlApartWrong)

/-- 'intagliolaw13.ControlCounts': WHATEVER THE INPUT: true; the input reads as it did. -/
def controlCountsSpec : ChangeSpec := { name := "controlCounts", fn := fun _ => fun
  | [d1, d2] => { results := [.lit (.bool true)], args := [d1, d2] }
  | _ => none }
def controlCountsRow : OpenClaim := { program := "ytbhnbjaafejcjaadoor", sum := "4ab129dd9d6a7907dcfcdc7846d31c0f9f5f46384df950fabe409f26f74e40ec", func := "intaglio/intagliolaw13.ControlCounts", spec := "controlCounts", inPlace := ["internal/reflectlite.ValueOf", "(internal/reflectlite.Value).Type", "(internal/reflectlite.Value).IsNil", "internal/reflectlite.TypeOf", "(internal/reflectlite.Value).Elem", "(internal/reflectlite.Value).Set"], unfollowed := true, recurses := true, named := ["errors.errorType"], apart := false, laid := [("errors.errorType", laid_errors_errorType)] }
def ControlCountsSaid : Prop := controlCountsRow.holds Tryd.pinned (OpenSpec.ofChange controlCountsSpec)

/-- ITS FALSE NEIGHBOUR: 'it returns false'. Refute it at one input. -/
def controlCountsWrong : ChangeSpec := { name := "controlCounts", fn := fun _ => fun
  | [d1, d2] => { results := [.lit (.bool false)], args := [d1, d2] }
  | _ => none }
def ControlCountsWrongFalsely : Prop := controlCountsRow.holds Tryd.pinned (OpenSpec.ofChange controlCountsWrong)

/-- 'intagliolaw13.ControlAll': WHATEVER THE INPUT: true; the input reads as it did. -/
def controlAllSpec : ChangeSpec := { name := "controlAll", fn := fun _ => fun
  | [d1, d2, d3] => { results := [.lit (.bool true)], args := [d1, d2, d3] }
  | _ => none }
def controlAllRow : OpenClaim := { program := "ytbhnbjaafejcjaadoor", sum := "4ab129dd9d6a7907dcfcdc7846d31c0f9f5f46384df950fabe409f26f74e40ec", func := "intaglio/intagliolaw13.ControlAll", spec := "controlAll", inPlace := ["internal/reflectlite.ValueOf", "(internal/reflectlite.Value).Type", "(internal/reflectlite.Value).IsNil", "internal/reflectlite.TypeOf", "(internal/reflectlite.Value).Elem", "(internal/reflectlite.Value).Set"], unfollowed := true, recurses := true, named := ["errors.errorType"], apart := false, laid := [("errors.errorType", laid_errors_errorType)] }
def ControlAllSaid : Prop := controlAllRow.holds Tryd.pinned (OpenSpec.ofChange controlAllSpec)

/-- ITS FALSE NEIGHBOUR: 'it returns false'. Refute it at one input. -/
def controlAllWrong : ChangeSpec := { name := "controlAll", fn := fun _ => fun
  | [d1, d2, d3] => { results := [.lit (.bool false)], args := [d1, d2, d3] }
  | _ => none }
def ControlAllWrongFalsely : Prop := controlAllRow.holds Tryd.pinned (OpenSpec.ofChange controlAllWrong)

/-- 'intagliolaw09.LookNil': WHATEVER THE INPUT: true; the input reads as it did. -/
def lookNilSpec : ChangeSpec := { name := "lookNil", fn := fun _ => fun
  | [d] => { results := [.lit (.bool true)], args := [d] }
  | _ => none }
def lookNilRow : OpenClaim := { program := "ytbhnbjaafejcjaadoor", sum := "4ab129dd9d6a7907dcfcdc7846d31c0f9f5f46384df950fabe409f26f74e40ec", func := "intaglio/intagliolaw09.LookNil", spec := "lookNil", inPlace := ["internal/reflectlite.ValueOf", "(internal/reflectlite.Value).Type", "(internal/reflectlite.Value).IsNil", "internal/reflectlite.TypeOf", "(internal/reflectlite.Value).Elem", "(internal/reflectlite.Value).Set"], unfollowed := true, recurses := true, named := ["errors.errorType"], apart := false, laid := [("errors.errorType", laid_errors_errorType)] }
def LookNilSaid : Prop := lookNilRow.holds Tryd.pinned (OpenSpec.ofChange lookNilSpec)

/-- ITS FALSE NEIGHBOUR: 'it returns false'. Refute it at one input. -/
def lookNilWrong : ChangeSpec := { name := "lookNil", fn := fun _ => fun
  | [d] => { results := [.lit (.bool false)], args := [d] }
  | _ => none }
def LookNilWrongFalsely : Prop := lookNilRow.holds Tryd.pinned (OpenSpec.ofChange lookNilWrong)

/- THE SECOND FORM. 'bulk': how many values and letters a reading holds, each counted each time it is reached (what is shared counts as often as it is met; a slice's spare places count too). A statement '..UptoSaid' is the law's where the arguments, and the package variables that the reading takes, are together of bulk at most 1048576: NARROWER than '..Said'. Prove '..Said' where nothing that the law and all that it calls make is longer than what came in: it says more and counts as full. Else prove '..UptoSaid'. A law counts once. -/
mutual
def uptoBulk {H : Type} : DataW H → Nat
  | .lit (.string bytes) => bytes.length + 1
  | .lit _ => 1
  | .nil => 1
  | .ptr d => uptoBulk d + 1
  | .slice elems spare => uptoBulkAll elems + uptoBulkAll spare + 1
  | .agg parts => uptoBulkAll parts + 1
  | .iface _ d => uptoBulk d + 1
  | .map entries => uptoBulkEntries entries + 1
  | .held _ => 1
def uptoBulkAll {H : Type} : List (DataW H) → Nat
  | [] => 0
  | d :: r => uptoBulk d + uptoBulkAll r
def uptoBulkEntries {H : Type} : List (Lit × DataW H) → Nat
  | [] => 0
  | x :: r => uptoBulkEntry x + uptoBulkEntries r
def uptoBulkEntry {H : Type} : Lit × DataW H → Nat
  | (.string bytes, d) => bytes.length + uptoBulk d + 1
  | (_, d) => uptoBulk d + 1
 end
def uptoSmall : (H : Type) → List (DataW H) → Bool := fun _ ds => decide (uptoBulkAll ds ≤ 1048576)
def OpenSpec.upto (s : _root_.Go.ChangeSpec) : _root_.Go.OpenSpec := { _root_.Go.OpenSpec.ofChange s with cond := some uptoSmall }

/-- 'intagliolaw05.SchemaSpoilt', WHERE WHAT IT READS IS OF BULK AT MOST 1048576: true; the input reads as it did. -/
def schemaSpoiltUptoRow : OpenClaim := { program := "ytbhnbjaafejcjaadoor", sum := "4ab129dd9d6a7907dcfcdc7846d31c0f9f5f46384df950fabe409f26f74e40ec", func := "intaglio/intagliolaw05.SchemaSpoilt", spec := "schemaSpoilt", inPlace := ["internal/reflectlite.ValueOf", "(internal/reflectlite.Value).Type", "(internal/reflectlite.Value).IsNil", "internal/reflectlite.TypeOf", "(internal/reflectlite.Value).Elem", "(internal/reflectlite.Value).Set"], unfollowed := true, recurses := true, named := ["errors.errorType"], apart := false, laid := [("errors.errorType", laid_errors_errorType)], narrowed := true }
def SchemaSpoiltUptoSaid : Prop := schemaSpoiltUptoRow.holds Tryd.pinned (OpenSpec.upto schemaSpoiltSpec)

/-- 'intagliolaw05.SchemaReads', WHERE WHAT IT READS IS OF BULK AT MOST 1048576: true; the input reads as it did. -/
def schemaReadsUptoRow : OpenClaim := { program := "ytbhnbjaafejcjaadoor", sum := "4ab129dd9d6a7907dcfcdc7846d31c0f9f5f46384df950fabe409f26f74e40ec", func := "intaglio/intagliolaw05.SchemaReads", spec := "schemaReads", inPlace := ["internal/reflectlite.ValueOf", "(internal/reflectlite.Value).Type", "(internal/reflectlite.Value).IsNil", "internal/reflectlite.TypeOf", "(internal/reflectlite.Value).Elem", "(internal/reflectlite.Value).Set"], unfollowed := true, recurses := true, named := ["errors.errorType"], apart := false, laid := [("errors.errorType", laid_errors_errorType)], narrowed := true }
def SchemaReadsUptoSaid : Prop := schemaReadsUptoRow.holds Tryd.pinned (OpenSpec.upto schemaReadsSpec)

/-- 'intagliolaw05.SchemaBack', WHERE WHAT IT READS IS OF BULK AT MOST 1048576: true; the input reads as it did. -/
def schemaBackUptoRow : OpenClaim := { program := "ytbhnbjaafejcjaadoor", sum := "4ab129dd9d6a7907dcfcdc7846d31c0f9f5f46384df950fabe409f26f74e40ec", func := "intaglio/intagliolaw05.SchemaBack", spec := "schemaBack", inPlace := ["internal/reflectlite.ValueOf", "(internal/reflectlite.Value).Type", "(internal/reflectlite.Value).IsNil", "internal/reflectlite.TypeOf", "(internal/reflectlite.Value).Elem", "(internal/reflectlite.Value).Set"], unfollowed := true, recurses := true, named := ["errors.errorType"], apart := false, laid := [("errors.errorType", laid_errors_errorType)], narrowed := true }
def SchemaBackUptoSaid : Prop := schemaBackUptoRow.holds Tryd.pinned (OpenSpec.upto schemaBackSpec)

/-- 'intagliolaw05.SchemaTells', WHERE WHAT IT READS IS OF BULK AT MOST 1048576: true; the input reads as it did. -/
def schemaTellsUptoRow : OpenClaim := { program := "ytbhnbjaafejcjaadoor", sum := "4ab129dd9d6a7907dcfcdc7846d31c0f9f5f46384df950fabe409f26f74e40ec", func := "intaglio/intagliolaw05.SchemaTells", spec := "schemaTells", inPlace := ["internal/reflectlite.ValueOf", "(internal/reflectlite.Value).Type", "(internal/reflectlite.Value).IsNil", "internal/reflectlite.TypeOf", "(internal/reflectlite.Value).Elem", "(internal/reflectlite.Value).Set"], unfollowed := true, recurses := true, named := ["errors.errorType"], apart := false, laid := [("errors.errorType", laid_errors_errorType)], narrowed := true }
def SchemaTellsUptoSaid : Prop := schemaTellsUptoRow.holds Tryd.pinned (OpenSpec.upto schemaTellsSpec)

/-- 'intagliolaw13.ControlApart', WHERE WHAT IT READS IS OF BULK AT MOST 1048576: true; the input reads as it did. -/
def controlApartUptoRow : OpenClaim := { program := "ytbhnbjaafejcjaadoor", sum := "4ab129dd9d6a7907dcfcdc7846d31c0f9f5f46384df950fabe409f26f74e40ec", func := "intaglio/intagliolaw13.ControlApart", spec := "controlApart", inPlace := ["internal/reflectlite.ValueOf", "(internal/reflectlite.Value).Type", "(internal/reflectlite.Value).IsNil", "internal/reflectlite.TypeOf", "(internal/reflectlite.Value).Elem", "(internal/reflectlite.Value).Set"], unfollowed := true, recurses := true, named := ["errors.errorType"], apart := false, laid := [("errors.errorType", laid_errors_errorType)], narrowed := true }
def ControlApartUptoSaid : Prop := controlApartUptoRow.holds Tryd.pinned (OpenSpec.upto controlApartSpec)

/-- 'intagliolaw13.ControlCounts', WHERE WHAT IT READS IS OF BULK AT MOST 1048576: true; the input reads as it did. -/
def controlCountsUptoRow : OpenClaim := { program := "ytbhnbjaafejcjaadoor", sum := "4ab129dd9d6a7907dcfcdc7846d31c0f9f5f46384df950fabe409f26f74e40ec", func := "intaglio/intagliolaw13.ControlCounts", spec := "controlCounts", inPlace := ["internal/reflectlite.ValueOf", "(internal/reflectlite.Value).Type", "(internal/reflectlite.Value).IsNil", "internal/reflectlite.TypeOf", "(internal/reflectlite.Value).Elem", "(internal/reflectlite.Value).Set"], unfollowed := true, recurses := true, named := ["errors.errorType"], apart := false, laid := [("errors.errorType", laid_errors_errorType)], narrowed := true }
def ControlCountsUptoSaid : Prop := controlCountsUptoRow.holds Tryd.pinned (OpenSpec.upto controlCountsSpec)

/-- 'intagliolaw13.ControlAll', WHERE WHAT IT READS IS OF BULK AT MOST 1048576: true; the input reads as it did. -/
def controlAllUptoRow : OpenClaim := { program := "ytbhnbjaafejcjaadoor", sum := "4ab129dd9d6a7907dcfcdc7846d31c0f9f5f46384df950fabe409f26f74e40ec", func := "intaglio/intagliolaw13.ControlAll", spec := "controlAll", inPlace := ["internal/reflectlite.ValueOf", "(internal/reflectlite.Value).Type", "(internal/reflectlite.Value).IsNil", "internal/reflectlite.TypeOf", "(internal/reflectlite.Value).Elem", "(internal/reflectlite.Value).Set"], unfollowed := true, recurses := true, named := ["errors.errorType"], apart := false, laid := [("errors.errorType", laid_errors_errorType)], narrowed := true }
def ControlAllUptoSaid : Prop := controlAllUptoRow.holds Tryd.pinned (OpenSpec.upto controlAllSpec)

/-- 'intagliolaw09.LookNil', WHERE WHAT IT READS IS OF BULK AT MOST 1048576: true; the input reads as it did. -/
def lookNilUptoRow : OpenClaim := { program := "ytbhnbjaafejcjaadoor", sum := "4ab129dd9d6a7907dcfcdc7846d31c0f9f5f46384df950fabe409f26f74e40ec", func := "intaglio/intagliolaw09.LookNil", spec := "lookNil", inPlace := ["internal/reflectlite.ValueOf", "(internal/reflectlite.Value).Type", "(internal/reflectlite.Value).IsNil", "internal/reflectlite.TypeOf", "(internal/reflectlite.Value).Elem", "(internal/reflectlite.Value).Set"], unfollowed := true, recurses := true, named := ["errors.errorType"], apart := false, laid := [("errors.errorType", laid_errors_errorType)], narrowed := true }
def LookNilUptoSaid : Prop := lookNilUptoRow.holds Tryd.pinned (OpenSpec.upto lookNilSpec)

end Rows
end Go.Proofs.YtbhnbjaafejcjaaDoor

/-
  NARROWER THAN 'FOR EVERY INPUT', by the rows' own cells (each row's printed sentence says how): ValidBuilt: laid · ValidEnds: laid · ValidCut: laid · BuildTells: laid · BuildOnce: laid · BuildLong: laid · BuildSizes: laid · BuildApart: laid · ValidTells: laid · ValidKeeps: laid · LookBack: laid · LookRight: laid · LookAsks: laid.
  DERIVED. THE GIVEN ROWS OF THIS SEAT. 13 by the template 'for every input the law returns true; each argument reads behind the call as it read before'; 0 by the template 'total and deterministic' (their statements: YtogaclolodlnbaaDoorTotals.lean).
  GIVEN WITH THE SEED: the statements are not yours to turn. If you find one false, say at which input.
  Laid BY PROGRAM, IN A SANDBOX (cutbox-rows.mjs): the forced cells as the released guide's own fill.sh prints them over the translation 1cbbf400b838e318… (all of the seat's roots in one cut). By AI agents, Wed Nov 11 2026. No macro, syntax, notation, axiom, sorry.
-/
import Derived.Test.YtogaclolodlnbaaDoorChecked
import GoSem.Claim
import GoSem.ClaimJoined
import GoSem.ClaimMapViews
import Derived.JoinedTies
import Derived.KernelRfl
namespace Go.Proofs.YtogaclolodlnbaaDoor
/- THE CELL 'sum', in the pinned program and in every row, IS THE sha256 OF THE DUMP (.gsa) THAT YtogaclolodlnbaaDoorProg.lean LOADS. Nothing in Lean hashes anything: it is a label: what it is worth is what the hold of that sum in a sandbox is worth. -/
noncomputable def Tryd.pinned : Pinned := { name := "ytogaclolodlnbaadoor", sum := "1cbbf400b838e3189cf10376d236a343bd7f07ed9771d7e6908d84dfc979297a", checked := Tryd.checked }
namespace Rows
def none {H : Type} : Left H := { results := [], args := [] }

/- WHAT THE LISTED PACKAGE-LEVEL VARIABLES READ AS WHEN THE CALL BEGINS. Each datum BY PROGRAM (the guide's laid-datum.mjs) off the statement by which the dump's own 'gosem.cut.vars' lays the variable. In a bare row this is a premise. The card (YtogaclolodlnbaaDoorCards.lean) ties it to the program's text. -/
def laid_errors_errorType {H : Type} : DataW H := .iface "internal/reflectlite.rtype" (.agg [.ptr (.lit (.string [101, 114, 114, 111, 114]))])

/-- 'intagliolaw08.ValidBuilt': WHATEVER THE INPUT: true; the input reads as it did. -/
def validBuiltSpec : ChangeSpec := { name := "validBuilt", fn := fun _ => fun
  | [d] => { results := [.lit (.bool true)], args := [d] }
  | _ => none }
def validBuiltRow : OpenClaim := { program := "ytogaclolodlnbaadoor", sum := "1cbbf400b838e3189cf10376d236a343bd7f07ed9771d7e6908d84dfc979297a", func := "intaglio/intagliolaw08.ValidBuilt", spec := "validBuilt", inPlace := ["internal/reflectlite.ValueOf", "(internal/reflectlite.Value).Type", "(internal/reflectlite.Value).IsNil", "internal/reflectlite.TypeOf", "(internal/reflectlite.Value).Elem", "(internal/reflectlite.Value).Set"], unfollowed := true, recurses := true, named := ["errors.errorType"], apart := false, laid := [("errors.errorType", laid_errors_errorType)] }
def ValidBuiltSaid : Prop := validBuiltRow.holds Tryd.pinned (OpenSpec.ofChange validBuiltSpec)

/-- ITS FALSE NEIGHBOUR: 'it returns false'. Refute it at one input. -/
def validBuiltWrong : ChangeSpec := { name := "validBuilt", fn := fun _ => fun
  | [d] => { results := [.lit (.bool false)], args := [d] }
  | _ => none }
def ValidBuiltWrongFalsely : Prop := validBuiltRow.holds Tryd.pinned (OpenSpec.ofChange validBuiltWrong)

/-- 'intagliolaw08.ValidEnds': WHATEVER THE INPUT: true; the input reads as it did. -/
def validEndsSpec : ChangeSpec := { name := "validEnds", fn := fun _ => fun
  | [d1, d2, d3] => { results := [.lit (.bool true)], args := [d1, d2, d3] }
  | _ => none }
def validEndsRow : OpenClaim := { program := "ytogaclolodlnbaadoor", sum := "1cbbf400b838e3189cf10376d236a343bd7f07ed9771d7e6908d84dfc979297a", func := "intaglio/intagliolaw08.ValidEnds", spec := "validEnds", inPlace := ["internal/reflectlite.ValueOf", "(internal/reflectlite.Value).Type", "(internal/reflectlite.Value).IsNil", "internal/reflectlite.TypeOf", "(internal/reflectlite.Value).Elem", "(internal/reflectlite.Value).Set"], unfollowed := true, recurses := true, named := ["errors.errorType"], apart := false, laid := [("errors.errorType", laid_errors_errorType)] }
def ValidEndsSaid : Prop := validEndsRow.holds Tryd.pinned (OpenSpec.ofChange validEndsSpec)

/-- ITS FALSE NEIGHBOUR: 'it returns false'. Refute it at one input. -/
def validEndsWrong : ChangeSpec := { name := "validEnds", fn := fun _ => fun
  | [d1, d2, d3] => { results := [.lit (.bool false)], args := [d1, d2, d3] }
  | _ => none }
def ValidEndsWrongFalsely : Prop := validEndsRow.holds Tryd.pinned (OpenSpec.ofChange validEndsWrong)

/-- 'intagliolaw08.ValidCut': WHATEVER THE INPUT: true; the input reads as it did. -/
def validCutSpec : ChangeSpec := { name := "validCut", fn := fun _ => fun
  | [d1, d2, d3] => { results := [.lit (.bool true)], args := [d1, d2, d3] }
  | _ => none }
def validCutRow : OpenClaim := { program := "ytogaclolodlnbaadoor", sum := "1cbbf400b838e3189cf10376d236a343bd7f07ed9771d7e6908d84dfc979297a", func := "intaglio/intagliolaw08.ValidCut", spec := "validCut", inPlace := ["internal/reflectlite.ValueOf", "(internal/reflectlite.Value).Type", "(internal/reflectlite.Value).IsNil", "internal/reflectlite.TypeOf", "(internal/reflectlite.Value).Elem", "(internal/reflectlite.Value).Set"], unfollowed := true, recurses := true, named := ["errors.errorType"], apart := false, laid := [("errors.errorType", laid_errors_errorType)] }
def ValidCutSaid : Prop := validCutRow.holds Tryd.pinned (OpenSpec.ofChange validCutSpec)

/-- ITS FALSE NEIGHBOUR: 'it returns false'. Refute it at one input. -/
def validCutWrong : ChangeSpec := { name := "validCut", fn := fun _ => fun
  | [d1, d2, d3] => { results := [.lit (.bool false)], args := [d1, d2, d3] }
  | _ => none }
def ValidCutWrongFalsely : Prop := validCutRow.holds Tryd.pinned (OpenSpec.ofChange validCutWrong)

/-- 'intagliolaw07.BuildTells': WHATEVER THE INPUT: true; the input reads as it did. -/
def buildTellsSpec : ChangeSpec := { name := "buildTells", fn := fun _ => fun
  | [d1, d2, d3] => { results := [.lit (.bool true)], args := [d1, d2, d3] }
  | _ => none }
def buildTellsRow : OpenClaim := { program := "ytogaclolodlnbaadoor", sum := "1cbbf400b838e3189cf10376d236a343bd7f07ed9771d7e6908d84dfc979297a", func := "intaglio/intagliolaw07.BuildTells", spec := "buildTells", inPlace := ["internal/reflectlite.ValueOf", "(internal/reflectlite.Value).Type", "(internal/reflectlite.Value).IsNil", "internal/reflectlite.TypeOf", "(internal/reflectlite.Value).Elem", "(internal/reflectlite.Value).Set"], unfollowed := true, recurses := true, named := ["errors.errorType"], apart := false, laid := [("errors.errorType", laid_errors_errorType)] }
def BuildTellsSaid : Prop := buildTellsRow.holds Tryd.pinned (OpenSpec.ofChange buildTellsSpec)

/-- ITS FALSE NEIGHBOUR: 'it returns false'. Refute it at one input. -/
def buildTellsWrong : ChangeSpec := { name := "buildTells", fn := fun _ => fun
  | [d1, d2, d3] => { results := [.lit (.bool false)], args := [d1, d2, d3] }
  | _ => none }
def BuildTellsWrongFalsely : Prop := buildTellsRow.holds Tryd.pinned (OpenSpec.ofChange buildTellsWrong)

/-- 'intagliolaw07.BuildOnce': WHATEVER THE INPUT: true; the input reads as it did. -/
def buildOnceSpec : ChangeSpec := { name := "buildOnce", fn := fun _ => fun
  | [d1, d2] => { results := [.lit (.bool true)], args := [d1, d2] }
  | _ => none }
def buildOnceRow : OpenClaim := { program := "ytogaclolodlnbaadoor", sum := "1cbbf400b838e3189cf10376d236a343bd7f07ed9771d7e6908d84dfc979297a", func := "intaglio/intagliolaw07.BuildOnce", spec := "buildOnce", inPlace := ["internal/reflectlite.ValueOf", "(internal/reflectlite.Value).Type", "(internal/reflectlite.Value).IsNil", "internal/reflectlite.TypeOf", "(internal/reflectlite.Value).Elem", "(internal/reflectlite.Value).Set"], unfollowed := true, recurses := true, named := ["errors.errorType"], apart := false, laid := [("errors.errorType", laid_errors_errorType)] }
def BuildOnceSaid : Prop := buildOnceRow.holds Tryd.pinned (OpenSpec.ofChange buildOnceSpec)

/-- ITS FALSE NEIGHBOUR: 'it returns false'. Refute it at one input. -/
def buildOnceWrong : ChangeSpec := { name := "buildOnce", fn := fun _ => fun
  | [d1, d2] => { results := [.lit (.bool false)], args := [d1, d2] }
  | _ => none }
def BuildOnceWrongFalsely : Prop := buildOnceRow.holds Tryd.pinned (OpenSpec.ofChange buildOnceWrong)

/-- 'intagliolaw07.BuildLong': WHATEVER THE INPUT: true; the input reads as it did. -/
def buildLongSpec : ChangeSpec := { name := "buildLong", fn := fun _ => fun
  | [d1, d2] => { results := [.lit (.bool true)], args := [d1, d2] }
  | _ => none }
def buildLongRow : OpenClaim := { program := "ytogaclolodlnbaadoor", sum := "1cbbf400b838e3189cf10376d236a343bd7f07ed9771d7e6908d84dfc979297a", func := "intaglio/intagliolaw07.BuildLong", spec := "buildLong", inPlace := ["internal/reflectlite.ValueOf", "(internal/reflectlite.Value).Type", "(internal/reflectlite.Value).IsNil", "internal/reflectlite.TypeOf", "(internal/reflectlite.Value).Elem", "(internal/reflectlite.Value).Set"], unfollowed := true, recurses := true, named := ["errors.errorType"], apart := false, laid := [("errors.errorType", laid_errors_errorType)] }
def BuildLongSaid : Prop := buildLongRow.holds Tryd.pinned (OpenSpec.ofChange buildLongSpec)

/-- ITS FALSE NEIGHBOUR: 'it returns false'. Refute it at one input. -/
def buildLongWrong : ChangeSpec := { name := "buildLong", fn := fun _ => fun
  | [d1, d2] => { results := [.lit (.bool false)], args := [d1, d2] }
  | _ => none }
def BuildLongWrongFalsely : Prop := buildLongRow.holds Tryd.pinned (OpenSpec.ofChange buildLongWrong)

/-- 'intagliolaw07.BuildSizes': WHATEVER THE INPUT: true; the input reads as it did. -/
def buildSizesSpec : ChangeSpec := { name := "buildSizes", fn := fun _ => fun
  | [d] => { results := [.lit (.bool true)], args := [d] }
  | _ => none }
def buildSizesRow : OpenClaim := { program := "ytogaclolodlnbaadoor", sum := "1cbbf400b838e3189cf10376d236a343bd7f07ed9771d7e6908d84dfc979297a", func := "intaglio/intagliolaw07.BuildSizes", spec := "buildSizes", inPlace := ["internal/reflectlite.ValueOf", "(internal/reflectlite.Value).Type", "(internal/reflectlite.Value).IsNil", "internal/reflectlite.TypeOf", "(internal/reflectlite.Value).Elem", "(internal/reflectlite.Value).Set"], unfollowed := true, recurses := true, named := ["errors.errorType"], apart := false, laid := [("errors.errorType", laid_errors_errorType)] }
def BuildSizesSaid : Prop := buildSizesRow.holds Tryd.pinned (OpenSpec.ofChange buildSizesSpec)

/-- ITS FALSE NEIGHBOUR: 'it returns false'. Refute it at one input. -/
def buildSizesWrong : ChangeSpec := { name := "buildSizes", fn := fun _ => fun
  | [d] => { results := [.lit (.bool false)], args := [d] }
  | _ => none }
def BuildSizesWrongFalsely : Prop := buildSizesRow.holds Tryd.pinned (OpenSpec.ofChange buildSizesWrong)

/-- 'intagliolaw07.BuildApart': WHATEVER THE INPUT: true; the input reads as it did. -/
def buildApartSpec : ChangeSpec := { name := "buildApart", fn := fun _ => fun
  | [d] => { results := [.lit (.bool true)], args := [d] }
  | _ => none }
def buildApartRow : OpenClaim := { program := "ytogaclolodlnbaadoor", sum := "1cbbf400b838e3189cf10376d236a343bd7f07ed9771d7e6908d84dfc979297a", func := "intaglio/intagliolaw07.BuildApart", spec := "buildApart", inPlace := ["internal/reflectlite.ValueOf", "(internal/reflectlite.Value).Type", "(internal/reflectlite.Value).IsNil", "internal/reflectlite.TypeOf", "(internal/reflectlite.Value).Elem", "(internal/reflectlite.Value).Set"], unfollowed := true, recurses := true, named := ["errors.errorType"], apart := false, laid := [("errors.errorType", laid_errors_errorType)] }
def BuildApartSaid : Prop := buildApartRow.holds Tryd.pinned (OpenSpec.ofChange buildApartSpec)

/-- ITS FALSE NEIGHBOUR: 'it returns false'. Refute it at one input. -/
def buildApartWrong : ChangeSpec := { name := "buildApart", fn := fun _ => fun
  | [d] => { results := [.lit (.bool false)], args := [d] }
  | _ => none }
def BuildApartWrongFalsely : Prop := buildApartRow.holds Tryd.pinned (OpenSpec.ofChange buildApartWrong)

/-- 'intagliolaw08.ValidTells': WHATEVER THE INPUT: true; the input reads as it did. -/
def validTellsSpec : ChangeSpec := { name := "validTells", fn := fun _ => fun
  | [d1, d2, d3] => { results := [.lit (.bool true)], args := [d1, d2, d3] }
  | _ => none }
def validTellsRow : OpenClaim := { program := "ytogaclolodlnbaadoor", sum := "1cbbf400b838e3189cf10376d236a343bd7f07ed9771d7e6908d84dfc979297a", func := "intaglio/intagliolaw08.ValidTells", spec := "validTells", inPlace := ["internal/reflectlite.ValueOf", "(internal/reflectlite.Value).Type", "(internal/reflectlite.Value).IsNil", "internal/reflectlite.TypeOf", "(internal/reflectlite.Value).Elem", "(internal/reflectlite.Value).Set"], unfollowed := true, recurses := true, named := ["errors.errorType"], apart := false, laid := [("errors.errorType", laid_errors_errorType)] }
def ValidTellsSaid : Prop := validTellsRow.holds Tryd.pinned (OpenSpec.ofChange validTellsSpec)

/-- ITS FALSE NEIGHBOUR: 'it returns false'. Refute it at one input. -/
def validTellsWrong : ChangeSpec := { name := "validTells", fn := fun _ => fun
  | [d1, d2, d3] => { results := [.lit (.bool false)], args := [d1, d2, d3] }
  | _ => none }
def ValidTellsWrongFalsely : Prop := validTellsRow.holds Tryd.pinned (OpenSpec.ofChange validTellsWrong)

/-- 'intagliolaw08.ValidKeeps': WHATEVER THE INPUT: true; the input reads as it did. -/
def validKeepsSpec : ChangeSpec := { name := "validKeeps", fn := fun _ => fun
  | [d1, d2] => { results := [.lit (.bool true)], args := [d1, d2] }
  | _ => none }
def validKeepsRow : OpenClaim := { program := "ytogaclolodlnbaadoor", sum := "1cbbf400b838e3189cf10376d236a343bd7f07ed9771d7e6908d84dfc979297a", func := "intaglio/intagliolaw08.ValidKeeps", spec := "validKeeps", inPlace := ["internal/reflectlite.ValueOf", "(internal/reflectlite.Value).Type", "(internal/reflectlite.Value).IsNil", "internal/reflectlite.TypeOf", "(internal/reflectlite.Value).Elem", "(internal/reflectlite.Value).Set"], unfollowed := true, recurses := true, named := ["errors.errorType"], apart := false, laid := [("errors.errorType", laid_errors_errorType)] }
def ValidKeepsSaid : Prop := validKeepsRow.holds Tryd.pinned (OpenSpec.ofChange validKeepsSpec)

/-- ITS FALSE NEIGHBOUR: 'it returns false'. Refute it at one input. -/
def validKeepsWrong : ChangeSpec := { name := "validKeeps", fn := fun _ => fun
  | [d1, d2] => { results := [.lit (.bool false)], args := [d1, d2] }
  | _ => none }
def ValidKeepsWrongFalsely : Prop := validKeepsRow.holds Tryd.pinned (OpenSpec.ofChange validKeepsWrong)

/-- 'intagliolaw09.LookBack': WHATEVER THE INPUT: true; the input reads as it did. -/
def lookBackSpec : ChangeSpec := { name := "lookBack", fn := fun _ => fun
  | [d] => { results := [.lit (.bool true)], args := [d] }
  | _ => none }
def lookBackRow : OpenClaim := { program := "ytogaclolodlnbaadoor", sum := "1cbbf400b838e3189cf10376d236a343bd7f07ed9771d7e6908d84dfc979297a", func := "intaglio/intagliolaw09.LookBack", spec := "lookBack", inPlace := ["internal/reflectlite.ValueOf", "(internal/reflectlite.Value).Type", "(internal/reflectlite.Value).IsNil", "internal/reflectlite.TypeOf", "(internal/reflectlite.Value).Elem", "(internal/reflectlite.Value).Set"], unfollowed := true, recurses := true, named := ["errors.errorType"], apart := false, laid := [("errors.errorType", laid_errors_errorType)] }
def LookBackSaid : Prop := lookBackRow.holds Tryd.pinned (OpenSpec.ofChange lookBackSpec)

/-- ITS FALSE NEIGHBOUR: 'it returns false'. Refute it at one input. -/
def lookBackWrong : ChangeSpec := { name := "lookBack", fn := fun _ => fun
  | [d] => { results := [.lit (.bool false)], args := [d] }
  | _ => none }
def LookBackWrongFalsely : Prop := lookBackRow.holds Tryd.pinned (OpenSpec.ofChange lookBackWrong)

/-- 'intagliolaw09.LookRight': WHATEVER THE INPUT: true; the input reads as it did. -/
def lookRightSpec : ChangeSpec := { name := "lookRight", fn := fun _ => fun
  | [d1, d2, d3] => { results := [.lit (.bool true)], args := [d1, d2, d3] }
  | _ => none }
def lookRightRow : OpenClaim := { program := "ytogaclolodlnbaadoor", sum := "1cbbf400b838e3189cf10376d236a343bd7f07ed9771d7e6908d84dfc979297a", func := "intaglio/intagliolaw09.LookRight", spec := "lookRight", inPlace := ["internal/reflectlite.ValueOf", "(internal/reflectlite.Value).Type", "(internal/reflectlite.Value).IsNil", "internal/reflectlite.TypeOf", "(internal/reflectlite.Value).Elem", "(internal/reflectlite.Value).Set"], unfollowed := true, recurses := true, named := ["errors.errorType"], apart := false, laid := [("errors.errorType", laid_errors_errorType)] }
def LookRightSaid : Prop := lookRightRow.holds Tryd.pinned (OpenSpec.ofChange lookRightSpec)

/-- ITS FALSE NEIGHBOUR: 'it returns false'. Refute it at one input. -/
def lookRightWrong : ChangeSpec := { name := "lookRight", fn := fun _ => fun
  | [d1, d2, d3] => { results := [.lit (.bool false)], args := [d1, d2, d3] }
  | _ => none }
def LookRightWrongFalsely : Prop := lookRightRow.holds Tryd.pinned (OpenSpec.ofChange lookRightWrong)

/-- 'intagliolaw09.LookAsks': WHATEVER THE INPUT: true; the input reads as it did. -/
def lookAsksSpec : ChangeSpec := { name := "lookAsks", fn := fun _ => fun
  | [d1, d2] => { results := [.lit (.bool true)], args := [d1, d2] }
  | _ => none }
def lookAsksRow : OpenClaim := { program := "ytogaclolodlnbaadoor", sum := "1cbbf400b838e3189cf10376d236a343bd7f07ed9771d7e6908d84dfc979297a", func := "intaglio/intagliolaw09.LookAsks", spec := "lookAsks", inPlace := ["internal/reflectlite.ValueOf", "(internal/reflectlite.Value).Type", "(internal/reflectlite.Value).IsNil", "internal/reflectlite.TypeOf", "(internal/reflectlite.Value).Elem", "(internal/reflectlite.Value).Set"], unfollowed := true, recurses := true, named := ["errors.errorType"], apart := false, laid := [("errors.errorType", laid_errors_errorType)] }
def LookAsksSaid : Prop := lookAsksRow.holds Tryd.pinned (OpenSpec.ofChange lookAsksSpec)

/-- ITS FALSE NEIGHBOUR: 'it returns false'. Refute it at one input. -/
def lookAsksWrong : ChangeSpec := { name := "lookAsks", fn := fun _ => fun
  | [d1, d2] => { results := [.lit (.bool false)], args := [d1, d2] }
  | _ => none }
def LookAsksWrongFalsely : Prop := lookAsksRow.holds Tryd.pinned (OpenSpec.ofChange lookAsksWrong)

/- THE SECOND FORM. 'bulk': how many values and letters a reading holds, each counted each time it is reached (what is shared counts as often as it is met; a slice's spare places count too). A statement '..UptoSaid' is the law's where the arguments, and the package variables that the reading takes, are together of bulk at most 1048576: NARROWER than '..Said'. Prove '..Said' where nothing that the law and all that it calls make is longer than what came in: it says more and counts as full. Else prove '..UptoSaid'. A law counts once. -/
mutual
def uptoBulk {H : Type} : DataW H → Nat
  | .lit (.string bytes) => bytes.length + 1
  | .lit _ => 1
  | .nil => 1
  | .ptr d => uptoBulk d + 1
  | .slice elems spare => uptoBulkAll elems + uptoBulkAll spare + 1
  | .agg parts => uptoBulkAll parts + 1
  | .iface _ d => uptoBulk d + 1
  | .map entries => uptoBulkEntries entries + 1
  | .held _ => 1
def uptoBulkAll {H : Type} : List (DataW H) → Nat
  | [] => 0
  | d :: r => uptoBulk d + uptoBulkAll r
def uptoBulkEntries {H : Type} : List (Lit × DataW H) → Nat
  | [] => 0
  | x :: r => uptoBulkEntry x + uptoBulkEntries r
def uptoBulkEntry {H : Type} : Lit × DataW H → Nat
  | (.string bytes, d) => bytes.length + uptoBulk d + 1
  | (_, d) => uptoBulk d + 1
 end
def uptoSmall : (H : Type) → List (DataW H) → Bool := fun _ ds => decide (uptoBulkAll ds ≤ 1048576)
def OpenSpec.upto (s : _root_.Go.ChangeSpec) : _root_.Go.OpenSpec := { _root_.Go.OpenSpec.ofChange s with cond := some uptoSmall }

/-- 'intagliolaw08.ValidBuilt', WHERE WHAT IT READS IS OF BULK AT MOST 1048576: true; the input reads as it did. -/
def validBuiltUptoRow : OpenClaim := { program := "ytogaclolodlnbaadoor", sum := "1cbbf400b838e3189cf10376d236a343bd7f07ed9771d7e6908d84dfc979297a", func := "intaglio/intagliolaw08.ValidBuilt", spec := "validBuilt", inPlace := ["internal/reflectlite.ValueOf", "(internal/reflectlite.Value).Type", "(internal/reflectlite.Value).IsNil", "internal/reflectlite.TypeOf", "(internal/reflectlite.Value).Elem", "(internal/reflectlite.Value).Set"], unfollowed := true, recurses := true, named := ["errors.errorType"], apart := false, laid := [("errors.errorType", laid_errors_errorType)], narrowed := true }
def ValidBuiltUptoSaid : Prop := validBuiltUptoRow.holds Tryd.pinned (OpenSpec.upto validBuiltSpec)

/-- 'intagliolaw08.ValidEnds', WHERE WHAT IT READS IS OF BULK AT MOST 1048576: true; the input reads as it did. -/
def validEndsUptoRow : OpenClaim := { program := "ytogaclolodlnbaadoor", sum := "1cbbf400b838e3189cf10376d236a343bd7f07ed9771d7e6908d84dfc979297a", func := "intaglio/intagliolaw08.ValidEnds", spec := "validEnds", inPlace := ["internal/reflectlite.ValueOf", "(internal/reflectlite.Value).Type", "(internal/reflectlite.Value).IsNil", "internal/reflectlite.TypeOf", "(internal/reflectlite.Value).Elem", "(internal/reflectlite.Value).Set"], unfollowed := true, recurses := true, named := ["errors.errorType"], apart := false, laid := [("errors.errorType", laid_errors_errorType)], narrowed := true }
def ValidEndsUptoSaid : Prop := validEndsUptoRow.holds Tryd.pinned (OpenSpec.upto validEndsSpec)

/-- 'intagliolaw08.ValidCut', WHERE WHAT IT READS IS OF BULK AT MOST 1048576: true; the input reads as it did. -/
def validCutUptoRow : OpenClaim := { program := "ytogaclolodlnbaadoor", sum := "1cbbf400b838e3189cf10376d236a343bd7f07ed9771d7e6908d84dfc979297a", func := "intaglio/intagliolaw08.ValidCut", spec := "validCut", inPlace := ["internal/reflectlite.ValueOf", "(internal/reflectlite.Value).Type", "(internal/reflectlite.Value).IsNil", "internal/reflectlite.TypeOf", "(internal/reflectlite.Value).Elem", "(internal/reflectlite.Value).Set"], unfollowed := true, recurses := true, named := ["errors.errorType"], apart := false, laid := [("errors.errorType", laid_errors_errorType)], narrowed := true }
def ValidCutUptoSaid : Prop := validCutUptoRow.holds Tryd.pinned (OpenSpec.upto validCutSpec)

/-- 'intagliolaw07.BuildTells', WHERE WHAT IT READS IS OF BULK AT MOST 1048576: true; the input reads as it did. -/
def buildTellsUptoRow : OpenClaim := { program := "ytogaclolodlnbaadoor", sum := "1cbbf400b838e3189cf10376d236a343bd7f07ed9771d7e6908d84dfc979297a", func := "intaglio/intagliolaw07.BuildTells", spec := "buildTells", inPlace := ["internal/reflectlite.ValueOf", "(internal/reflectlite.Value).Type", "(internal/reflectlite.Value).IsNil", "internal/reflectlite.TypeOf", "(internal/reflectlite.Value).Elem", "(internal/reflectlite.Value).Set"], unfollowed := true, recurses := true, named := ["errors.errorType"], apart := false, laid := [("errors.errorType", laid_errors_errorType)], narrowed := true }
def BuildTellsUptoSaid : Prop := buildTellsUptoRow.holds Tryd.pinned (OpenSpec.upto buildTellsSpec)

/-- 'intagliolaw07.BuildOnce', WHERE WHAT IT READS IS OF BULK AT MOST 1048576: true; the input reads as it did. -/
def buildOnceUptoRow : OpenClaim := { program := "ytogaclolodlnbaadoor", sum := "1cbbf400b838e3189cf10376d236a343bd7f07ed9771d7e6908d84dfc979297a", func := "intaglio/intagliolaw07.BuildOnce", spec := "buildOnce", inPlace := ["internal/reflectlite.ValueOf", "(internal/reflectlite.Value).Type", "(internal/reflectlite.Value).IsNil", "internal/reflectlite.TypeOf", "(internal/reflectlite.Value).Elem", "(internal/reflectlite.Value).Set"], unfollowed := true, recurses := true, named := ["errors.errorType"], apart := false, laid := [("errors.errorType", laid_errors_errorType)], narrowed := true }
def BuildOnceUptoSaid : Prop := buildOnceUptoRow.holds Tryd.pinned (OpenSpec.upto buildOnceSpec)

/-- 'intagliolaw07.BuildLong', WHERE WHAT IT READS IS OF BULK AT MOST 1048576: true; the input reads as it did. -/
def buildLongUptoRow : OpenClaim := { program := "ytogaclolodlnbaadoor", sum := "1cbbf400b838e3189cf10376d236a343bd7f07ed9771d7e6908d84dfc979297a", func := "intaglio/intagliolaw07.BuildLong", spec := "buildLong", inPlace := ["internal/reflectlite.ValueOf", "(internal/reflectlite.Value).Type", "(internal/reflectlite.Value).IsNil", "internal/reflectlite.TypeOf", "(internal/reflectlite.Value).Elem", "(internal/reflectlite.Value).Set"], unfollowed := true, recurses := true, named := ["errors.errorType"], apart := false, laid := [("errors.errorType", laid_errors_errorType)], narrowed := true }
def BuildLongUptoSaid : Prop := buildLongUptoRow.holds Tryd.pinned (OpenSpec.upto buildLongSpec)

/-- 'intagliolaw07.BuildSizes', WHERE WHAT IT READS IS OF BULK AT MOST 1048576: true; the input reads as it did. -/
def buildSizesUptoRow : OpenClaim := { program := "ytogaclolodlnbaadoor", sum := "1cbbf400b838e3189cf10376d236a343bd7f07ed9771d7e6908d84dfc979297a", func := "intaglio/intagliolaw07.BuildSizes", spec := "buildSizes", inPlace := ["internal/reflectlite.ValueOf", "(internal/reflectlite.Value).Type", "(internal/reflectlite.Value).IsNil", "internal/reflectlite.TypeOf", "(internal/reflectlite.Value).Elem", "(internal/reflectlite.Value).Set"], unfollowed := true, recurses := true, named := ["errors.errorType"], apart := false, laid := [("errors.errorType", laid_errors_errorType)], narrowed := true }
def BuildSizesUptoSaid : Prop := buildSizesUptoRow.holds Tryd.pinned (OpenSpec.upto buildSizesSpec)

/-- 'intagliolaw07.BuildApart', WHERE WHAT IT READS IS OF BULK AT MOST 1048576: true; the input reads as it did. -/
def buildApartUptoRow : OpenClaim := { program := "ytogaclolodlnbaadoor", sum := "1cbbf400b838e3189cf10376d236a343bd7f07ed9771d7e6908d84dfc979297a", func := "intaglio/intagliolaw07.BuildApart", spec := "buildApart", inPlace := ["internal/reflectlite.ValueOf", "(internal/reflectlite.Value).Type", "(internal/reflectlite.Value).IsNil", "internal/reflectlite.TypeOf", "(internal/reflectlite.Value).Elem", "(internal/reflectlite.Value).Set"], unfollowed := true, recurses := true, named := ["errors.errorType"], apart := false, laid := [("errors.errorType", laid_errors_errorType)], narrowed := true }
def BuildApartUptoSaid : Prop := buildApartUptoRow.holds Tryd.pinned (OpenSpec.upto buildApartSpec)

/-- 'intagliolaw08.ValidTells', WHERE WHAT IT READS IS OF BULK AT MOST 1048576: true; the input reads as it did. -/
def validTellsUptoRow : OpenClaim := { program := "ytogaclolodlnbaadoor", sum := "1cbbf400b838e3189cf10376d236a343bd7f07ed9771d7e6908d84dfc979297a", func := "intaglio/intagliolaw08.ValidTells", spec := "validTells", inPlace := ["internal/reflectlite.ValueOf", "(internal/reflectlite.Value).Type", "(internal/reflectlite.Value).IsNil", "internal/reflectlite.TypeOf", "(internal/reflectlite.Value).Elem", "(internal/reflectlite.Value).Set"], unfollowed := true, recurses := true, named := ["errors.errorType"], apart := false, laid := [("errors.errorType", laid_errors_errorType)], narrowed := true }
def ValidTellsUptoSaid : Prop := validTellsUptoRow.holds Tryd.pinned (OpenSpec.upto validTellsSpec)

/-- 'intagliolaw08.ValidKeeps', WHERE WHAT IT READS IS OF BULK AT MOST 1048576: true; the input reads as it did. -/
def validKeepsUptoRow : OpenClaim := { program := "ytogaclolodlnbaadoor", sum := "1cbbf400b838e3189cf10376d236a343bd7f07ed9771d7e6908d84dfc979297a", func := "intaglio/intagliolaw08.ValidKeeps", spec := "validKeeps", inPlace := ["internal/reflectlite.ValueOf", "(internal/reflectlite.Value).Type", "(internal/reflectlite.Value).IsNil", "internal/reflectlite.TypeOf", "(internal/reflectlite.Value).Elem", "(internal/reflectlite.Value).Set"], unfollowed := true, recurses := true, named := ["errors.errorType"], apart := false, laid := [("errors.errorType", laid_errors_errorType)], narrowed := true }
def ValidKeepsUptoSaid : Prop := validKeepsUptoRow.holds Tryd.pinned (OpenSpec.upto validKeepsSpec)

/-- 'intagliolaw09.LookBack', WHERE WHAT IT READS IS OF BULK AT MOST 1048576: true; the input reads as it did. -/
def lookBackUptoRow : OpenClaim := { program := "ytogaclolodlnbaadoor", sum := "1cbbf400b838e3189cf10376d236a343bd7f07ed9771d7e6908d84dfc979297a", func := "intaglio/intagliolaw09.LookBack", spec := "lookBack", inPlace := ["internal/reflectlite.ValueOf", "(internal/reflectlite.Value).Type", "(internal/reflectlite.Value).IsNil", "internal/reflectlite.TypeOf", "(internal/reflectlite.Value).Elem", "(internal/reflectlite.Value).Set"], unfollowed := true, recurses := true, named := ["errors.errorType"], apart := false, laid := [("errors.errorType", laid_errors_errorType)], narrowed := true }
def LookBackUptoSaid : Prop := lookBackUptoRow.holds Tryd.pinned (OpenSpec.upto lookBackSpec)

/-- 'intagliolaw09.LookRight', WHERE WHAT IT READS IS OF BULK AT MOST 1048576: true; the input reads as it did. -/
def lookRightUptoRow : OpenClaim := { program := "ytogaclolodlnbaadoor", sum := "1cbbf400b838e3189cf10376d236a343bd7f07ed9771d7e6908d84dfc979297a", func := "intaglio/intagliolaw09.LookRight", spec := "lookRight", inPlace := ["internal/reflectlite.ValueOf", "(internal/reflectlite.Value).Type", "(internal/reflectlite.Value).IsNil", "internal/reflectlite.TypeOf", "(internal/reflectlite.Value).Elem", "(internal/reflectlite.Value).Set"], unfollowed := true, recurses := true, named := ["errors.errorType"], apart := false, laid := [("errors.errorType", laid_errors_errorType)], narrowed := true }
def LookRightUptoSaid : Prop := lookRightUptoRow.holds Tryd.pinned (OpenSpec.upto lookRightSpec)

/-- 'intagliolaw09.LookAsks', WHERE WHAT IT READS IS OF BULK AT MOST 1048576: true; the input reads as it did. -/
def lookAsksUptoRow : OpenClaim := { program := "ytogaclolodlnbaadoor", sum := "1cbbf400b838e3189cf10376d236a343bd7f07ed9771d7e6908d84dfc979297a", func := "intaglio/intagliolaw09.LookAsks", spec := "lookAsks", inPlace := ["internal/reflectlite.ValueOf", "(internal/reflectlite.Value).Type", "(internal/reflectlite.Value).IsNil", "internal/reflectlite.TypeOf", "(internal/reflectlite.Value).Elem", "(internal/reflectlite.Value).Set"], unfollowed := true, recurses := true, named := ["errors.errorType"], apart := false, laid := [("errors.errorType", laid_errors_errorType)], narrowed := true }
def LookAsksUptoSaid : Prop := lookAsksUptoRow.holds Tryd.pinned (OpenSpec.upto lookAsksSpec)

end Rows
end Go.Proofs.YtogaclolodlnbaaDoor

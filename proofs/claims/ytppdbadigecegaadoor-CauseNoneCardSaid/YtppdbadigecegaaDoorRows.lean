/-
  NARROWER THAN 'FOR EVERY INPUT', by the rows' own cells (each row's printed sentence says how): CauseIs: laid · CauseTells: laid · CauseChains: laid · CauseNone: laid.
  DERIVED. THE GIVEN ROWS OF THIS SEAT. 4 by the template 'for every input the law returns true; each argument reads behind the call as it read before'; 0 by the template 'total and deterministic' (their statements: YtppdbadigecegaaDoorTotals.lean).
  GIVEN WITH THE SEED: the statements are not yours to turn. If you find one false, say at which input.
  Laid BY PROGRAM, IN A SANDBOX (cutbox-rows.mjs): the forced cells as the released guide's own fill.sh prints them over the translation d0b76f0a07f7848b… (all of the seat's roots in one cut). By AI agents, Wed Nov 11 2026. No macro, syntax, notation, axiom, sorry.
-/
import Derived.Test.YtppdbadigecegaaDoorChecked
import GoSem.Claim
import GoSem.ClaimJoined
import GoSem.ClaimMapViews
import Derived.JoinedTies
import Derived.KernelRfl
namespace Go.Proofs.YtppdbadigecegaaDoor
/- THE CELL 'sum', in the pinned program and in every row, IS THE sha256 OF THE DUMP (.gsa) THAT YtppdbadigecegaaDoorProg.lean LOADS. Nothing in Lean hashes anything: it is a label: what it is worth is what the hold of that sum in a sandbox is worth. -/
noncomputable def Tryd.pinned : Pinned := { name := "ytppdbadigecegaadoor", sum := "d0b76f0a07f7848b83c9263fef96830269cd1295d18a6e5df1d3d3b5bfa8f0e5", checked := Tryd.checked }
namespace Rows
def none {H : Type} : Left H := { results := [], args := [] }

/- WHAT THE LISTED PACKAGE-LEVEL VARIABLES READ AS WHEN THE CALL BEGINS. Each datum BY PROGRAM (the guide's laid-datum.mjs) off the statement by which the dump's own 'gosem.cut.vars' lays the variable. In a bare row this is a premise. The card (YtppdbadigecegaaDoorCards.lean) ties it to the program's text. -/
def laid_errors_errorType {H : Type} : DataW H := .iface "internal/reflectlite.rtype" (.agg [.ptr (.lit (.string [101, 114, 114, 111, 114]))])

/-- 'intagliolaw01.CauseIs': WHATEVER THE INPUT: true; the input reads as it did. -/
def causeIsSpec : ChangeSpec := { name := "causeIs", fn := fun _ => fun
  | [d1, d2] => { results := [.lit (.bool true)], args := [d1, d2] }
  | _ => none }
def causeIsRow : OpenClaim := { program := "ytppdbadigecegaadoor", sum := "d0b76f0a07f7848b83c9263fef96830269cd1295d18a6e5df1d3d3b5bfa8f0e5", func := "intaglio/intagliolaw01.CauseIs", spec := "causeIs", inPlace := ["internal/reflectlite.ValueOf", "(internal/reflectlite.Value).Type", "(internal/reflectlite.Value).IsNil", "internal/reflectlite.TypeOf", "(internal/reflectlite.Value).Elem", "(internal/reflectlite.Value).Set"], unfollowed := true, recurses := true, named := ["errors.errorType"], apart := false, laid := [("errors.errorType", laid_errors_errorType)] }
def CauseIsSaid : Prop := causeIsRow.holds Tryd.pinned (OpenSpec.ofChange causeIsSpec)

/-- ITS FALSE NEIGHBOUR: 'it returns false'. Refute it at one input. -/
def causeIsWrong : ChangeSpec := { name := "causeIs", fn := fun _ => fun
  | [d1, d2] => { results := [.lit (.bool false)], args := [d1, d2] }
  | _ => none }
def CauseIsWrongFalsely : Prop := causeIsRow.holds Tryd.pinned (OpenSpec.ofChange causeIsWrong)

/-- 'intagliolaw01.CauseTells': WHATEVER THE INPUT: true; the input reads as it did. -/
def causeTellsSpec : ChangeSpec := { name := "causeTells", fn := fun _ => fun
  | [d1, d2] => { results := [.lit (.bool true)], args := [d1, d2] }
  | _ => none }
def causeTellsRow : OpenClaim := { program := "ytppdbadigecegaadoor", sum := "d0b76f0a07f7848b83c9263fef96830269cd1295d18a6e5df1d3d3b5bfa8f0e5", func := "intaglio/intagliolaw01.CauseTells", spec := "causeTells", inPlace := ["internal/reflectlite.ValueOf", "(internal/reflectlite.Value).Type", "(internal/reflectlite.Value).IsNil", "internal/reflectlite.TypeOf", "(internal/reflectlite.Value).Elem", "(internal/reflectlite.Value).Set"], unfollowed := true, recurses := true, named := ["errors.errorType"], apart := false, laid := [("errors.errorType", laid_errors_errorType)] }
def CauseTellsSaid : Prop := causeTellsRow.holds Tryd.pinned (OpenSpec.ofChange causeTellsSpec)

/-- ITS FALSE NEIGHBOUR: 'it returns false'. Refute it at one input. -/
def causeTellsWrong : ChangeSpec := { name := "causeTells", fn := fun _ => fun
  | [d1, d2] => { results := [.lit (.bool false)], args := [d1, d2] }
  | _ => none }
def CauseTellsWrongFalsely : Prop := causeTellsRow.holds Tryd.pinned (OpenSpec.ofChange causeTellsWrong)

/-- 'intagliolaw01.CauseChains': WHATEVER THE INPUT: true; the input reads as it did. -/
def causeChainsSpec : ChangeSpec := { name := "causeChains", fn := fun _ => fun
  | [d1, d2, d3] => { results := [.lit (.bool true)], args := [d1, d2, d3] }
  | _ => none }
def causeChainsRow : OpenClaim := { program := "ytppdbadigecegaadoor", sum := "d0b76f0a07f7848b83c9263fef96830269cd1295d18a6e5df1d3d3b5bfa8f0e5", func := "intaglio/intagliolaw01.CauseChains", spec := "causeChains", inPlace := ["internal/reflectlite.ValueOf", "(internal/reflectlite.Value).Type", "(internal/reflectlite.Value).IsNil", "internal/reflectlite.TypeOf", "(internal/reflectlite.Value).Elem", "(internal/reflectlite.Value).Set"], unfollowed := true, recurses := true, named := ["errors.errorType"], apart := false, laid := [("errors.errorType", laid_errors_errorType)] }
def CauseChainsSaid : Prop := causeChainsRow.holds Tryd.pinned (OpenSpec.ofChange causeChainsSpec)

/-- ITS FALSE NEIGHBOUR: 'it returns false'. Refute it at one input. -/
def causeChainsWrong : ChangeSpec := { name := "causeChains", fn := fun _ => fun
  | [d1, d2, d3] => { results := [.lit (.bool false)], args := [d1, d2, d3] }
  | _ => none }
def CauseChainsWrongFalsely : Prop := causeChainsRow.holds Tryd.pinned (OpenSpec.ofChange causeChainsWrong)

/-- 'intagliolaw01.CauseNone': WHATEVER THE INPUT: true; the input reads as it did. -/
def causeNoneSpec : ChangeSpec := { name := "causeNone", fn := fun _ => fun
  | [d1, d2] => { results := [.lit (.bool true)], args := [d1, d2] }
  | _ => none }
def causeNoneRow : OpenClaim := { program := "ytppdbadigecegaadoor", sum := "d0b76f0a07f7848b83c9263fef96830269cd1295d18a6e5df1d3d3b5bfa8f0e5", func := "intaglio/intagliolaw01.CauseNone", spec := "causeNone", inPlace := ["internal/reflectlite.ValueOf", "(internal/reflectlite.Value).Type", "(internal/reflectlite.Value).IsNil", "internal/reflectlite.TypeOf", "(internal/reflectlite.Value).Elem", "(internal/reflectlite.Value).Set"], unfollowed := true, recurses := true, named := ["errors.errorType"], apart := false, laid := [("errors.errorType", laid_errors_errorType)] }
def CauseNoneSaid : Prop := causeNoneRow.holds Tryd.pinned (OpenSpec.ofChange causeNoneSpec)

/-- ITS FALSE NEIGHBOUR: 'it returns false'. Refute it at one input. -/
def causeNoneWrong : ChangeSpec := { name := "causeNone", fn := fun _ => fun
  | [d1, d2] => { results := [.lit (.bool false)], args := [d1, d2] }
  | _ => none }
def CauseNoneWrongFalsely : Prop := causeNoneRow.holds Tryd.pinned (OpenSpec.ofChange causeNoneWrong)

/- THE SECOND FORM. 'bulk': how many values and letters a reading holds, each counted each time it is reached (what is shared counts as often as it is met; a slice's spare places count too). A statement '..UptoSaid' is the law's where the arguments, and the package variables that the reading takes, are together of bulk at most 1048576: NARROWER than '..Said'. Prove '..Said' where nothing that the law and all that it calls make is longer than what came in: it says more and counts as full. Else prove '..UptoSaid'. A law counts once. -/
mutual
def uptoBulk {H : Type} : DataW H → Nat
  | .lit (.string bytes) => bytes.length + 1
  | .lit _ => 1
  | .nil => 1
  | .ptr d => uptoBulk d + 1
  | .slice elems spare => uptoBulkAll elems + uptoBulkAll spare + 1
  | .agg parts => uptoBulkAll parts + 1
  | .iface _ d => uptoBulk d + 1
  | .map entries => uptoBulkEntries entries + 1
  | .held _ => 1
def uptoBulkAll {H : Type} : List (DataW H) → Nat
  | [] => 0
  | d :: r => uptoBulk d + uptoBulkAll r
def uptoBulkEntries {H : Type} : List (Lit × DataW H) → Nat
  | [] => 0
  | x :: r => uptoBulkEntry x + uptoBulkEntries r
def uptoBulkEntry {H : Type} : Lit × DataW H → Nat
  | (.string bytes, d) => bytes.length + uptoBulk d + 1
  | (_, d) => uptoBulk d + 1
 end
def uptoSmall : (H : Type) → List (DataW H) → Bool := fun _ ds => decide (uptoBulkAll ds ≤ 1048576)
def OpenSpec.upto (s : _root_.Go.ChangeSpec) : _root_.Go.OpenSpec := { _root_.Go.OpenSpec.ofChange s with cond := some uptoSmall }

/-- 'intagliolaw01.CauseIs', WHERE WHAT IT READS IS OF BULK AT MOST 1048576: true; the input reads as it did. -/
def causeIsUptoRow : OpenClaim := { program := "ytppdbadigecegaadoor", sum := "d0b76f0a07f7848b83c9263fef96830269cd1295d18a6e5df1d3d3b5bfa8f0e5", func := "intaglio/intagliolaw01.CauseIs", spec := "causeIs", inPlace := ["internal/reflectlite.ValueOf", "(internal/reflectlite.Value).Type", "(internal/reflectlite.Value).IsNil", "internal/reflectlite.TypeOf", "(internal/reflectlite.Value).Elem", "(internal/reflectlite.Value).Set"], unfollowed := true, recurses := true, named := ["errors.errorType"], apart := false, laid := [("errors.errorType", laid_errors_errorType)], narrowed := true }
def CauseIsUptoSaid : Prop := causeIsUptoRow.holds Tryd.pinned (OpenSpec.upto causeIsSpec)

/-- 'intagliolaw01.CauseTells', WHERE WHAT IT READS IS OF BULK AT MOST 1048576: true; the input reads as it did. -/
def causeTellsUptoRow : OpenClaim := { program := "ytppdbadigecegaadoor", sum := "d0b76f0a07f7848b83c9263fef96830269cd1295d18a6e5df1d3d3b5bfa8f0e5", func := "intaglio/intagliolaw01.CauseTells", spec := "causeTells", inPlace := ["internal/reflectlite.ValueOf", "(internal/reflectlite.Value).Type", "(internal/reflectlite.Value).IsNil", "internal/reflectlite.TypeOf", "(internal/reflectlite.Value).Elem", "(internal/reflectlite.Value).Set"], unfollowed := true, recurses := true, named := ["errors.errorType"], apart := false, laid := [("errors.errorType", laid_errors_errorType)], narrowed := true }
def CauseTellsUptoSaid : Prop := causeTellsUptoRow.holds Tryd.pinned (OpenSpec.upto causeTellsSpec)

/-- 'intagliolaw01.CauseChains', WHERE WHAT IT READS IS OF BULK AT MOST 1048576: true; the input reads as it did. -/
def causeChainsUptoRow : OpenClaim := { program := "ytppdbadigecegaadoor", sum := "d0b76f0a07f7848b83c9263fef96830269cd1295d18a6e5df1d3d3b5bfa8f0e5", func := "intaglio/intagliolaw01.CauseChains", spec := "causeChains", inPlace := ["internal/reflectlite.ValueOf", "(internal/reflectlite.Value).Type", "(internal/reflectlite.Value).IsNil", "internal/reflectlite.TypeOf", "(internal/reflectlite.Value).Elem", "(internal/reflectlite.Value).Set"], unfollowed := true, recurses := true, named := ["errors.errorType"], apart := false, laid := [("errors.errorType", laid_errors_errorType)], narrowed := true }
def CauseChainsUptoSaid : Prop := causeChainsUptoRow.holds Tryd.pinned (OpenSpec.upto causeChainsSpec)

/-- 'intagliolaw01.CauseNone', WHERE WHAT IT READS IS OF BULK AT MOST 1048576: true; the input reads as it did. -/
def causeNoneUptoRow : OpenClaim := { program := "ytppdbadigecegaadoor", sum := "d0b76f0a07f7848b83c9263fef96830269cd1295d18a6e5df1d3d3b5bfa8f0e5", func := "intaglio/intagliolaw01.CauseNone", spec := "causeNone", inPlace := ["internal/reflectlite.ValueOf", "(internal/reflectlite.Value).Type", "(internal/reflectlite.Value).IsNil", "internal/reflectlite.TypeOf", "(internal/reflectlite.Value).Elem", "(internal/reflectlite.Value).Set"], unfollowed := true, recurses := true, named := ["errors.errorType"], apart := false, laid := [("errors.errorType", laid_errors_errorType)], narrowed := true }
def CauseNoneUptoSaid : Prop := causeNoneUptoRow.holds Tryd.pinned (OpenSpec.upto causeNoneSpec)

end Rows
end Go.Proofs.YtppdbadigecegaaDoor

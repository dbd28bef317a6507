/-
  No cell of these rows narrows 'for every input' (looked for: loops, veiled, ifaces, maps, wideKeys, modest, calm, conditions, laid).
  DERIVED. THE GIVEN ROWS OF THIS SEAT. 7 by the template 'for every input the law returns true; each argument reads behind the call as it read before'; 0 by the template 'total and deterministic' (their statements: YtbohkamhcdnmbaaTotals.lean).
  GIVEN WITH THE SEED: the statements are not yours to turn. If you find one false, say at which input.
  Laid BY PROGRAM, IN A SANDBOX (cutbox-rows.mjs): the forced cells as the released guide's own fill.sh prints them over the translation adc6e0f21376de94… (all of the seat's roots in one cut). By AI agents, Wed Nov 11 2026. No macro, syntax, notation, axiom, sorry.
-/
import Derived.Test.YtbohkamhcdnmbaaChecked
import GoSem.Claim
import GoSem.ClaimJoined
import GoSem.ClaimMapViews
import Derived.JoinedTies
import Derived.KernelRfl
namespace Go.Proofs.Ytbohkamhcdnmbaa
/- THE CELL 'sum', in the pinned program and in every row, IS THE sha256 OF THE DUMP (.gsa) THAT YtbohkamhcdnmbaaProg.lean LOADS. Nothing in Lean hashes anything: it is a label: what it is worth is what the hold of that sum in a sandbox is worth. -/
noncomputable def Try.pinned : Pinned := { name := "ytbohkamhcdnmbaa", sum := "adc6e0f21376de9476b8a78f02371cca88eff0d9e042540017b6131a276e3a0d", checked := Try.checked }
namespace Rows
def none {H : Type} : Left H := { results := [], args := [] }

/-- 'intagliolaw02.BitsMix': WHATEVER THE INPUT: true; the input reads as it did. -/
def bitsMixSpec : ChangeSpec := { name := "bitsMix", fn := fun _ => fun
  | [d1, d2] => { results := [.lit (.bool true)], args := [d1, d2] }
  | _ => none }
def bitsMixRow : OpenClaim := { program := "ytbohkamhcdnmbaa", sum := "adc6e0f21376de9476b8a78f02371cca88eff0d9e042540017b6131a276e3a0d", func := "intaglio/intagliolaw02.BitsMix", spec := "bitsMix", apart := false }
def BitsMixSaid : Prop := bitsMixRow.holds Try.pinned (OpenSpec.ofChange bitsMixSpec)

/-- ITS FALSE NEIGHBOUR: 'it returns false'. Refute it at one input. -/
def bitsMixWrong : ChangeSpec := { name := "bitsMix", fn := fun _ => fun
  | [d1, d2] => { results := [.lit (.bool false)], args := [d1, d2] }
  | _ => none }
def BitsMixWrongFalsely : Prop := bitsMixRow.holds Try.pinned (OpenSpec.ofChange bitsMixWrong)

/-- 'intagliolaw02.BitsUnmix': WHATEVER THE INPUT: true; the input reads as it did. -/
def bitsUnmixSpec : ChangeSpec := { name := "bitsUnmix", fn := fun _ => fun
  | [d] => { results := [.lit (.bool true)], args := [d] }
  | _ => none }
def bitsUnmixRow : OpenClaim := { program := "ytbohkamhcdnmbaa", sum := "adc6e0f21376de9476b8a78f02371cca88eff0d9e042540017b6131a276e3a0d", func := "intaglio/intagliolaw02.BitsUnmix", spec := "bitsUnmix", apart := false }
def BitsUnmixSaid : Prop := bitsUnmixRow.holds Try.pinned (OpenSpec.ofChange bitsUnmixSpec)

/-- ITS FALSE NEIGHBOUR: 'it returns false'. Refute it at one input. -/
def bitsUnmixWrong : ChangeSpec := { name := "bitsUnmix", fn := fun _ => fun
  | [d] => { results := [.lit (.bool false)], args := [d] }
  | _ => none }
def BitsUnmixWrongFalsely : Prop := bitsUnmixRow.holds Try.pinned (OpenSpec.ofChange bitsUnmixWrong)

/-- 'intagliolaw02.BitsSet': WHATEVER THE INPUT: true; the input reads as it did. -/
def bitsSetSpec : ChangeSpec := { name := "bitsSet", fn := fun _ => fun
  | [d1, d2, d3] => { results := [.lit (.bool true)], args := [d1, d2, d3] }
  | _ => none }
def bitsSetRow : OpenClaim := { program := "ytbohkamhcdnmbaa", sum := "adc6e0f21376de9476b8a78f02371cca88eff0d9e042540017b6131a276e3a0d", func := "intaglio/intagliolaw02.BitsSet", spec := "bitsSet", apart := false }
def BitsSetSaid : Prop := bitsSetRow.holds Try.pinned (OpenSpec.ofChange bitsSetSpec)

/-- ITS FALSE NEIGHBOUR: 'it returns false'. Refute it at one input. -/
def bitsSetWrong : ChangeSpec := { name := "bitsSet", fn := fun _ => fun
  | [d1, d2, d3] => { results := [.lit (.bool false)], args := [d1, d2, d3] }
  | _ => none }
def BitsSetWrongFalsely : Prop := bitsSetRow.holds Try.pinned (OpenSpec.ofChange bitsSetWrong)

/-- 'intagliolaw02.BitsApart': WHATEVER THE INPUT: true; the input reads as it did. -/
def bitsApartSpec : ChangeSpec := { name := "bitsApart", fn := fun _ => fun
  | [d1, d2, d3] => { results := [.lit (.bool true)], args := [d1, d2, d3] }
  | _ => none }
def bitsApartRow : OpenClaim := { program := "ytbohkamhcdnmbaa", sum := "adc6e0f21376de9476b8a78f02371cca88eff0d9e042540017b6131a276e3a0d", func := "intaglio/intagliolaw02.BitsApart", spec := "bitsApart", apart := false }
def BitsApartSaid : Prop := bitsApartRow.holds Try.pinned (OpenSpec.ofChange bitsApartSpec)

/-- ITS FALSE NEIGHBOUR: 'it returns false'. Refute it at one input. -/
def bitsApartWrong : ChangeSpec := { name := "bitsApart", fn := fun _ => fun
  | [d1, d2, d3] => { results := [.lit (.bool false)], args := [d1, d2, d3] }
  | _ => none }
def BitsApartWrongFalsely : Prop := bitsApartRow.holds Try.pinned (OpenSpec.ofChange bitsApartWrong)

/-- 'intagliolaw02.BitsTell': WHATEVER THE INPUT: true; the input reads as it did. -/
def bitsTellSpec : ChangeSpec := { name := "bitsTell", fn := fun _ => fun
  | [d1, d2, d3] => { results := [.lit (.bool true)], args := [d1, d2, d3] }
  | _ => none }
def bitsTellRow : OpenClaim := { program := "ytbohkamhcdnmbaa", sum := "adc6e0f21376de9476b8a78f02371cca88eff0d9e042540017b6131a276e3a0d", func := "intaglio/intagliolaw02.BitsTell", spec := "bitsTell", apart := false }
def BitsTellSaid : Prop := bitsTellRow.holds Try.pinned (OpenSpec.ofChange bitsTellSpec)

/-- ITS FALSE NEIGHBOUR: 'it returns false'. Refute it at one input. -/
def bitsTellWrong : ChangeSpec := { name := "bitsTell", fn := fun _ => fun
  | [d1, d2, d3] => { results := [.lit (.bool false)], args := [d1, d2, d3] }
  | _ => none }
def BitsTellWrongFalsely : Prop := bitsTellRow.holds Try.pinned (OpenSpec.ofChange bitsTellWrong)

/-- 'intagliolaw02.BitsTexts': WHATEVER THE INPUT: true; the input reads as it did. -/
def bitsTextsSpec : ChangeSpec := { name := "bitsTexts", fn := fun _ => fun
  | [d1, d2, d3] => { results := [.lit (.bool true)], args := [d1, d2, d3] }
  | _ => none }
def bitsTextsRow : OpenClaim := { program := "ytbohkamhcdnmbaa", sum := "adc6e0f21376de9476b8a78f02371cca88eff0d9e042540017b6131a276e3a0d", func := "intaglio/intagliolaw02.BitsTexts", spec := "bitsTexts", apart := false }
def BitsTextsSaid : Prop := bitsTextsRow.holds Try.pinned (OpenSpec.ofChange bitsTextsSpec)

/-- ITS FALSE NEIGHBOUR: 'it returns false'. Refute it at one input. -/
def bitsTextsWrong : ChangeSpec := { name := "bitsTexts", fn := fun _ => fun
  | [d1, d2, d3] => { results := [.lit (.bool false)], args := [d1, d2, d3] }
  | _ => none }
def BitsTextsWrongFalsely : Prop := bitsTextsRow.holds Try.pinned (OpenSpec.ofChange bitsTextsWrong)

/-- 'intagliolaw02.BitsBack': WHATEVER THE INPUT: true; the input reads as it did. -/
def bitsBackSpec : ChangeSpec := { name := "bitsBack", fn := fun _ => fun
  | [d1, d2] => { results := [.lit (.bool true)], args := [d1, d2] }
  | _ => none }
def bitsBackRow : OpenClaim := { program := "ytbohkamhcdnmbaa", sum := "adc6e0f21376de9476b8a78f02371cca88eff0d9e042540017b6131a276e3a0d", func := "intaglio/intagliolaw02.BitsBack", spec := "bitsBack", apart := false }
def BitsBackSaid : Prop := bitsBackRow.holds Try.pinned (OpenSpec.ofChange bitsBackSpec)

/-- ITS FALSE NEIGHBOUR: 'it returns false'. Refute it at one input. -/
def bitsBackWrong : ChangeSpec := { name := "bitsBack", fn := fun _ => fun
  | [d1, d2] => { results := [.lit (.bool false)], args := [d1, d2] }
  | _ => none }
def BitsBackWrongFalsely : Prop := bitsBackRow.holds Try.pinned (OpenSpec.ofChange bitsBackWrong)

/- THE SECOND FORM. 'bulk': how many values and letters a reading holds, each counted each time it is reached (what is shared counts as often as it is met; a slice's spare places count too). A statement '..UptoSaid' is the law's where the arguments, and the package variables that the reading takes, are together of bulk at most 1048576: NARROWER than '..Said'. Prove '..Said' where nothing that the law and all that it calls make is longer than what came in: it says more and counts as full. Else prove '..UptoSaid'. A law counts once. -/
mutual
def uptoBulk {H : Type} : DataW H → Nat
  | .lit (.string bytes) => bytes.length + 1
  | .lit _ => 1
  | .nil => 1
  | .ptr d => uptoBulk d + 1
  | .slice elems spare => uptoBulkAll elems + uptoBulkAll spare + 1
  | .agg parts => uptoBulkAll parts + 1
  | .iface _ d => uptoBulk d + 1
  | .map entries => uptoBulkEntries entries + 1
  | .held _ => 1
def uptoBulkAll {H : Type} : List (DataW H) → Nat
  | [] => 0
  | d :: r => uptoBulk d + uptoBulkAll r
def uptoBulkEntries {H : Type} : List (Lit × DataW H) → Nat
  | [] => 0
  | x :: r => uptoBulkEntry x + uptoBulkEntries r
def uptoBulkEntry {H : Type} : Lit × DataW H → Nat
  | (.string bytes, d) => bytes.length + uptoBulk d + 1
  | (_, d) => uptoBulk d + 1
 end
def uptoSmall : (H : Type) → List (DataW H) → Bool := fun _ ds => decide (uptoBulkAll ds ≤ 1048576)
def OpenSpec.upto (s : _root_.Go.ChangeSpec) : _root_.Go.OpenSpec := { _root_.Go.OpenSpec.ofChange s with cond := some uptoSmall }

/-- 'intagliolaw02.BitsMix', WHERE WHAT IT READS IS OF BULK AT MOST 1048576: true; the input reads as it did. -/
def bitsMixUptoRow : OpenClaim := { program := "ytbohkamhcdnmbaa", sum := "adc6e0f21376de9476b8a78f02371cca88eff0d9e042540017b6131a276e3a0d", func := "intaglio/intagliolaw02.BitsMix", spec := "bitsMix", apart := false, narrowed := true }
def BitsMixUptoSaid : Prop := bitsMixUptoRow.holds Try.pinned (OpenSpec.upto bitsMixSpec)

/-- 'intagliolaw02.BitsUnmix', WHERE WHAT IT READS IS OF BULK AT MOST 1048576: true; the input reads as it did. -/
def bitsUnmixUptoRow : OpenClaim := { program := "ytbohkamhcdnmbaa", sum := "adc6e0f21376de9476b8a78f02371cca88eff0d9e042540017b6131a276e3a0d", func := "intaglio/intagliolaw02.BitsUnmix", spec := "bitsUnmix", apart := false, narrowed := true }
def BitsUnmixUptoSaid : Prop := bitsUnmixUptoRow.holds Try.pinned (OpenSpec.upto bitsUnmixSpec)

/-- 'intagliolaw02.BitsSet', WHERE WHAT IT READS IS OF BULK AT MOST 1048576: true; the input reads as it did. -/
def bitsSetUptoRow : OpenClaim := { program := "ytbohkamhcdnmbaa", sum := "adc6e0f21376de9476b8a78f02371cca88eff0d9e042540017b6131a276e3a0d", func := "intaglio/intagliolaw02.BitsSet", spec := "bitsSet", apart := false, narrowed := true }
def BitsSetUptoSaid : Prop := bitsSetUptoRow.holds Try.pinned (OpenSpec.upto bitsSetSpec)

/-- 'intagliolaw02.BitsApart', WHERE WHAT IT READS IS OF BULK AT MOST 1048576: true; the input reads as it did. -/
def bitsApartUptoRow : OpenClaim := { program := "ytbohkamhcdnmbaa", sum := "adc6e0f21376de9476b8a78f02371cca88eff0d9e042540017b6131a276e3a0d", func := "intaglio/intagliolaw02.BitsApart", spec := "bitsApart", apart := false, narrowed := true }
def BitsApartUptoSaid : Prop := bitsApartUptoRow.holds Try.pinned (OpenSpec.upto bitsApartSpec)

/-- 'intagliolaw02.BitsTell', WHERE WHAT IT READS IS OF BULK AT MOST 1048576: true; the input reads as it did. -/
def bitsTellUptoRow : OpenClaim := { program := "ytbohkamhcdnmbaa", sum := "adc6e0f21376de9476b8a78f02371cca88eff0d9e042540017b6131a276e3a0d", func := "intaglio/intagliolaw02.BitsTell", spec := "bitsTell", apart := false, narrowed := true }
def BitsTellUptoSaid : Prop := bitsTellUptoRow.holds Try.pinned (OpenSpec.upto bitsTellSpec)

/-- 'intagliolaw02.BitsTexts', WHERE WHAT IT READS IS OF BULK AT MOST 1048576: true; the input reads as it did. -/
def bitsTextsUptoRow : OpenClaim := { program := "ytbohkamhcdnmbaa", sum := "adc6e0f21376de9476b8a78f02371cca88eff0d9e042540017b6131a276e3a0d", func := "intaglio/intagliolaw02.BitsTexts", spec := "bitsTexts", apart := false, narrowed := true }
def BitsTextsUptoSaid : Prop := bitsTextsUptoRow.holds Try.pinned (OpenSpec.upto bitsTextsSpec)

/-- 'intagliolaw02.BitsBack', WHERE WHAT IT READS IS OF BULK AT MOST 1048576: true; the input reads as it did. -/
def bitsBackUptoRow : OpenClaim := { program := "ytbohkamhcdnmbaa", sum := "adc6e0f21376de9476b8a78f02371cca88eff0d9e042540017b6131a276e3a0d", func := "intaglio/intagliolaw02.BitsBack", spec := "bitsBack", apart := false, narrowed := true }
def BitsBackUptoSaid : Prop := bitsBackUptoRow.holds Try.pinned (OpenSpec.upto bitsBackSpec)

end Rows
end Go.Proofs.Ytbohkamhcdnmbaa

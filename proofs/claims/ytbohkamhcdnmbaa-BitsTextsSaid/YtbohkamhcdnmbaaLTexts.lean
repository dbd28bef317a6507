/- For every input, the law BitsTexts returns true and leaves its arguments as they were: no condition beyond the row's own. -/
import Derived.Test.YtbohkamhcdnmbaaRows
import Derived.Test.YtbohkamhcdnmbaaOpen
import Derived.Test.YtbohkamhcdnmbaaB12
set_option linter.unusedVariables false
namespace Go.Proofs.Ytbohkamhcdnmbaa.bitsTexts
open Go.ChangeShapes Go.WideShapes Go.ChangeAt Go.RowKit
open Go.ChangeMaps (open_string)

theorem own : ownKnob Try.prog.godebug = none := by kernel_rfl
theorem laidOut : laidOutB Try.prog = true := by kernel_rfl
theorem rowed : typesRowed Try.prog Try.f8.params.toList = true := by kernel_rfl
theorem vrowed : varsRowed Try.prog Rows.bitsTextsSpec.vars = true := by kernel_rfl

theorem cells22 : Try.prog.cellsOf 22 = 1 := by kernel_rfl
theorem cells28 : Try.prog.cellsOf 28 = 2 := by kernel_rfl
theorem cells3 : Try.prog.cellsOf 3 = 1 := by kernel_rfl

set_option maxRecDepth 100000 in
theorem lifted (os : Os) (started : os.Started) (H : Type) (enc : TypeId × Value → H) :
    ReturnsInHanded {} Try.checked os 8 .any (Rows.bitsTextsSpec.pre6 enc Try.prog Try.f8 Rows.bitsTextsRow.domain false) (Rows.bitsTextsSpec.post enc Try.prog Try.f8 false true false false) := by
  refine returnsInHanded_of_change (C := Try.checked) own started (by kernel_rfl) Try.func8
    (ChangeSpec.witness6 (enc := enc) (C := Try.checked) false ⟨#[], #[.string ByteArray.empty, .slice none 0 0, .agg #[.int .i64 0, .int .i64 0]], []⟩ 8 (by kernel_rfl) (by kernel_rfl) (by kernel_rfl) (by kernel_rfl)) ?_
  intro W base args ds gs before hval0 hW hcnd _
  have hval : ∀ (j : Nat) t v, Try.f8.params[j]? = some t → args[j]? = some v → Value.okWide Try.prog W .any base t v := hval0
  have hW' := hW
  obtain ⟨p, q, hA0, hV, rfl, hfz, hnd⟩ := hW
  have hA : DataW.TrodAll enc Try.prog W 0 (fun _ => true) true Try.f8.params.toList args.toList ds p := hA0
  rw [Try.params8] at hA hval
  obtain ⟨v0, vs0, d0, ds0, p0, q0, hargs, rfl, rfl, h0, r0⟩ := trodAll_cons hA
  obtain ⟨v1, vs1, d1, ds1, p1, q1, rfl, rfl, rfl, h1, r1⟩ := trodAll_cons r0
  obtain ⟨v2, vs2, d2, ds2, p2, q2, rfl, rfl, rfl, h2, r2⟩ := trodAll_cons r1
  obtain ⟨rfl, rfl, rfl⟩ := trodAll_nil r2
  obtain rfl : args = #[v0, v1, v2] := by cases args; simp_all
  obtain ⟨rfl, rfl⟩ := trodVars_none hV
  obtain ⟨s0, rfl, _, _, w0⟩ := open_string Try.underlying9 (hval 0 9 v0 rfl rfl) h0
  obtain ⟨n1, l1, hr1⟩ := open_u64s Try.underlying37 Try.underlying22 cells22 (hval 1 37 v1 rfl rfl) h1
  obtain ⟨l2, rfl, hl2, w2⟩ := open_arr Try.underlying28 Try.underlying3 cells3 cells28 (hval 2 28 v2 rfl rfl) h2
  obtain ⟨a2a, a2b, rfl⟩ := list2 hl2
  simp only [List.map_cons, List.map_nil] at *
  have ba2a := i64_bd (w2 a2a (by simp))
  have ba2b := i64_bd (w2 a2b (by simp))
  have hlaw : Calls Try.prog 8 #[.string s0, v1, .agg #[.int .i64 a2a, .int .i64 a2b]] W fun e w' => e = .returned (.bool true) ∧ Below W.heap.size W w' := by
    exact law_BitsTexts s0 v1 n1 l1 a2a a2b W hr1 w0 ba2a ba2b
  refine Calls.mono hlaw fun e W' ⟨he, hg⟩ => ?_
  subst he
  exact ⟨_, rfl, law_post laidOut rowed vrowed rfl Try.underlying4 hW' rfl rfl rfl hg⟩

theorem over : Rows.bitsTextsRow.holds Try.pinned (OpenSpec.ofChange Rows.bitsTextsSpec) :=
  OpenClaim.holds_of_wide 8 Try.f8 rfl rfl rfl rfl rfl rfl rfl ⟨rfl, rfl, rfl, rfl, rfl⟩ rfl rfl rfl rfl rfl (by kernel_rfl) Try.func8 (by kernel_rfl)
    (of_decide_eq_true (by kernel_rfl)) (by unfold Func.isWrapper; first | (rw [if_pos (by decide +kernel)]; kernel_rfl) | (rw [if_neg (by decide +kernel)]; exact ⟨rfl, rfl⟩))
    (fun os started H enc _ => lifted os started H enc)

theorem proved : Rows.BitsTextsSaid :=
  over
#print axioms proved
end Go.Proofs.Ytbohkamhcdnmbaa.bitsTexts

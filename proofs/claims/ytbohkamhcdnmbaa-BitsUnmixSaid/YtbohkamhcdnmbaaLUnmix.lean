/- For every input, the law BitsUnmix returns true and leaves its arguments as they were: no condition beyond the row's own. -/
import Derived.Test.YtbohkamhcdnmbaaRows
import Derived.Test.YtbohkamhcdnmbaaClose
import Derived.Test.YtbohkamhcdnmbaaB8
set_option linter.unusedVariables false
namespace Go.Proofs.Ytbohkamhcdnmbaa.bitsUnmix
open Go.ChangeShapes Go.WideShapes Go.ChangeAt Go.RowKit
open Go.ChangeMaps (open_string)

theorem own : ownKnob Try.prog.godebug = none := by kernel_rfl
theorem laidOut : laidOutB Try.prog = true := by kernel_rfl
theorem rowed : typesRowed Try.prog Try.f4.params.toList = true := by kernel_rfl
theorem vrowed : varsRowed Try.prog Rows.bitsUnmixSpec.vars = true := by kernel_rfl


set_option maxRecDepth 100000 in
theorem lifted (os : Os) (started : os.Started) (H : Type) (enc : TypeId × Value → H) :
    ReturnsInHanded {} Try.checked os 4 .any (Rows.bitsUnmixSpec.pre6 enc Try.prog Try.f4 Rows.bitsUnmixRow.domain false) (Rows.bitsUnmixSpec.post enc Try.prog Try.f4 false true false false) := by
  refine returnsInHanded_of_change (C := Try.checked) own started (by kernel_rfl) Try.func4
    (ChangeSpec.witness6 (enc := enc) (C := Try.checked) false ⟨#[], #[.int .u64 0], []⟩ 8 (by kernel_rfl) (by kernel_rfl) (by kernel_rfl) (by kernel_rfl)) ?_
  intro W base args ds gs before hval0 hW hcnd _
  have hval : ∀ (j : Nat) t v, Try.f4.params[j]? = some t → args[j]? = some v → Value.okWide Try.prog W .any base t v := hval0
  have hW' := hW
  obtain ⟨p, q, hA0, hV, rfl, hfz, hnd⟩ := hW
  have hA : DataW.TrodAll enc Try.prog W 0 (fun _ => true) true Try.f4.params.toList args.toList ds p := hA0
  rw [Try.params4] at hA hval
  obtain ⟨v0, vs0, d0, ds0, p0, q0, hargs, rfl, rfl, h0, r0⟩ := trodAll_cons hA
  obtain ⟨rfl, rfl, rfl⟩ := trodAll_nil r0
  obtain rfl : args = #[v0] := by cases args; simp_all
  obtain ⟨rfl, rfl⟩ := trodVars_none hV
  obtain ⟨a0, rfl, _, _, w0⟩ := open_int Try.underlying22 (hval 0 22 v0 rfl rfl) h0
  have b0 := u64_bd w0
  have hlaw : Calls Try.prog 4 #[.int .u64 a0] W fun e w' => e = .returned (.bool true) ∧ Below W.heap.size W w' := by
    rw [U_of a0 b0.1 b0.2]
    exact law_BitsUnmix _ W
  refine Calls.mono hlaw fun e W' ⟨he, hg⟩ => ?_
  subst he
  exact ⟨_, rfl, law_post laidOut rowed vrowed rfl Try.underlying4 hW' rfl rfl rfl hg⟩

theorem over : Rows.bitsUnmixRow.holds Try.pinned (OpenSpec.ofChange Rows.bitsUnmixSpec) :=
  OpenClaim.holds_of_wide 4 Try.f4 rfl rfl rfl rfl rfl rfl rfl ⟨rfl, rfl, rfl, rfl, rfl⟩ rfl rfl rfl rfl rfl (by kernel_rfl) Try.func4 (by kernel_rfl)
    (of_decide_eq_true (by kernel_rfl)) (by unfold Func.isWrapper; first | (rw [if_pos (by decide +kernel)]; kernel_rfl) | (rw [if_neg (by decide +kernel)]; exact ⟨rfl, rfl⟩))
    (fun os started H enc _ => lifted os started H enc)

theorem proved : Rows.BitsUnmixSaid :=
  over
#print axioms proved
end Go.Proofs.Ytbohkamhcdnmbaa.bitsUnmix

/- For every input, the law BitsApart returns true and leaves its arguments as they were: no condition beyond the row's own. -/
import Derived.Test.YtbohkamhcdnmbaaRows
import Derived.Test.YtbohkamhcdnmbaaClose
import Derived.Test.YtbohkamhcdnmbaaB8
set_option linter.unusedVariables false
namespace Go.Proofs.Ytbohkamhcdnmbaa.bitsApart
open Go.ChangeShapes Go.WideShapes Go.ChangeAt Go.RowKit
open Go.ChangeMaps (open_string)

theorem own : ownKnob Try.prog.godebug = none := by kernel_rfl
theorem laidOut : laidOutB Try.prog = true := by kernel_rfl
theorem rowed : typesRowed Try.prog Try.f6.params.toList = true := by kernel_rfl
theorem vrowed : varsRowed Try.prog Rows.bitsApartSpec.vars = true := by kernel_rfl

theorem cells33 : Try.prog.cellsOf 33 = 2 := by kernel_rfl
theorem cells22 : Try.prog.cellsOf 22 = 1 := by kernel_rfl
theorem cells34 : Try.prog.cellsOf 34 = 3 := by kernel_rfl
theorem cells3 : Try.prog.cellsOf 3 = 1 := by kernel_rfl

set_option maxRecDepth 100000 in
theorem lifted (os : Os) (started : os.Started) (H : Type) (enc : TypeId × Value → H) :
    ReturnsInHanded {} Try.checked os 6 .any (Rows.bitsApartSpec.pre6 enc Try.prog Try.f6 Rows.bitsApartRow.domain false) (Rows.bitsApartSpec.post enc Try.prog Try.f6 false true false false) := by
  refine returnsInHanded_of_change (C := Try.checked) own started (by kernel_rfl) Try.func6
    (ChangeSpec.witness6 (enc := enc) (C := Try.checked) false ⟨#[], #[.int .u64 0, .agg #[.int .u64 0, .int .u64 0], .agg #[.int .i64 0, .int .i64 0, .int .i64 0]], []⟩ 8 (by kernel_rfl) (by kernel_rfl) (by kernel_rfl) (by kernel_rfl)) ?_
  intro W base args ds gs before hval0 hW hcnd _
  have hval : ∀ (j : Nat) t v, Try.f6.params[j]? = some t → args[j]? = some v → Value.okWide Try.prog W .any base t v := hval0
  have hW' := hW
  obtain ⟨p, q, hA0, hV, rfl, hfz, hnd⟩ := hW
  have hA : DataW.TrodAll enc Try.prog W 0 (fun _ => true) true Try.f6.params.toList args.toList ds p := hA0
  rw [Try.params6] at hA hval
  obtain ⟨v0, vs0, d0, ds0, p0, q0, hargs, rfl, rfl, h0, r0⟩ := trodAll_cons hA
  obtain ⟨v1, vs1, d1, ds1, p1, q1, rfl, rfl, rfl, h1, r1⟩ := trodAll_cons r0
  obtain ⟨v2, vs2, d2, ds2, p2, q2, rfl, rfl, rfl, h2, r2⟩ := trodAll_cons r1
  obtain ⟨rfl, rfl, rfl⟩ := trodAll_nil r2
  obtain rfl : args = #[v0, v1, v2] := by cases args; simp_all
  obtain ⟨rfl, rfl⟩ := trodVars_none hV
  obtain ⟨a0, rfl, _, _, w0⟩ := open_int Try.underlying22 (hval 0 22 v0 rfl rfl) h0
  have b0 := u64_bd w0
  obtain ⟨l1, rfl, hl1, w1⟩ := open_arr Try.underlying33 Try.underlying22 cells22 cells33 (hval 1 33 v1 rfl rfl) h1
  obtain ⟨a1a, a1b, rfl⟩ := list2 hl1
  simp only [List.map_cons, List.map_nil] at *
  have ba1a := u64_bd (w1 a1a (by simp))
  have ba1b := u64_bd (w1 a1b (by simp))
  obtain ⟨l2, rfl, hl2, w2⟩ := open_arr Try.underlying34 Try.underlying3 cells3 cells34 (hval 2 34 v2 rfl rfl) h2
  obtain ⟨a2a, a2b, a2c, rfl⟩ := list3 hl2
  simp only [List.map_cons, List.map_nil] at *
  have ba2a := i64_bd (w2 a2a (by simp))
  have ba2b := i64_bd (w2 a2b (by simp))
  have ba2c := i64_bd (w2 a2c (by simp))
  have hlaw : Calls Try.prog 6 #[.int .u64 a0, .agg #[.int .u64 a1a, .int .u64 a1b], .agg #[.int .i64 a2a, .int .i64 a2b, .int .i64 a2c]] W fun e w' => e = .returned (.bool true) ∧ Below W.heap.size W w' := by
    rw [U_of a0 b0.1 b0.2, U_of a1a ba1a.1 ba1a.2, U_of a1b ba1b.1 ba1b.2]
    exact law_BitsApart _ _ _ a2a a2b a2c W ba2c
  refine Calls.mono hlaw fun e W' ⟨he, hg⟩ => ?_
  subst he
  exact ⟨_, rfl, law_post laidOut rowed vrowed rfl Try.underlying4 hW' rfl rfl rfl hg⟩

theorem over : Rows.bitsApartRow.holds Try.pinned (OpenSpec.ofChange Rows.bitsApartSpec) :=
  OpenClaim.holds_of_wide 6 Try.f6 rfl rfl rfl rfl rfl rfl rfl ⟨rfl, rfl, rfl, rfl, rfl⟩ rfl rfl rfl rfl rfl (by kernel_rfl) Try.func6 (by kernel_rfl)
    (of_decide_eq_true (by kernel_rfl)) (by unfold Func.isWrapper; first | (rw [if_pos (by decide +kernel)]; kernel_rfl) | (rw [if_neg (by decide +kernel)]; exact ⟨rfl, rfl⟩))
    (fun os started H enc _ => lifted os started H enc)

theorem proved : Rows.BitsApartSaid :=
  over
#print axioms proved
end Go.Proofs.Ytbohkamhcdnmbaa.bitsApart

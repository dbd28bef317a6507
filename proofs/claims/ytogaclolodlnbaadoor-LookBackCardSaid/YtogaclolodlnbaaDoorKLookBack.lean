/- For every input, the law LookBack returns true and leaves its arguments as they were: no condition beyond the row's own; the one package variable is tied to the program's text. -/
import Derived.Test.YtogaclolodlnbaaDoorTie
import Derived.Test.YtogaclolodlnbaaDoorCards
import Derived.Test.YtogaclolodlnbaaDoorOpenA
import Derived.Test.YtogaclolodlnbaaDoorLKBack
import Derived.LaidLaws
import Derived.LaidHandle
import Derived.SevenTiedAt
set_option linter.unusedVariables false
namespace Go.Proofs.YtogaclolodlnbaaDoor.lookBack
open Go.ChangeShapes Go.WideShapes Go.ChangeAt Go.RowKit
open Go.ChangeMaps (open_string)

theorem own : ownKnob Tryd.prog.godebug = none := by kernel_rfl
theorem laidOut : laidOutB Tryd.prog = true := by kernel_rfl
theorem rowed : typesRowed Tryd.prog Tryd.f13.params.toList = true := by kernel_rfl
theorem vrowed : varsRowed Tryd.prog Rows.lookBackSpec.vars = true := by kernel_rfl
theorem et : Tryd.prog.globalNamed "errors.errorType" = some 0 := by kernel_rfl
theorem rt : (Tryd.prog.cutTypes.find? (·.1 == "internal/reflectlite.rtype")).map (·.2) = some 180 := by kernel_rfl
theorem oneRow : ((List.range 235).filter fun t => Tryd.prog.rowNamed t [101, 114, 114, 111, 114]) = [34] := by kernel_rfl
theorem size : Tryd.prog.types.size = 235 := by kernel_rfl

/-- What the row's condition gives the walk: the variable's one cell. -/
theorem handle_of_laid {W : World} (h : laidMetH Tryd.prog Rows.lookBackRow.laid W) : LaidE W := by
  have h' : laidMet Tryd.prog [] W ∧ handlesMet Tryd.prog Rows.lookBackRow.laid W := h
  obtain ⟨name, u, ty, e1, e2, e3, e4, e5⟩ := h'.2 _ (List.mem_singleton.2 rfl)
  have en : name = [101, 114, 114, 111, 114] := (Option.some.inj e1).symm
  subst en
  obtain rfl := Option.some.inj (rt.symm.trans e2)
  have hm : ty ∈ (List.range 235).filter fun t => Tryd.prog.rowNamed t [101, 114, 114, 111, 114] := List.mem_filter.2 ⟨List.mem_range.2 (by rw [← size]; exact e3), e4⟩
  rw [oneRow] at hm
  obtain rfl := List.mem_singleton.1 hm
  have hh : typeHandle Tryd.prog 34 = .pointer (some ⟨1, 34, none⟩) := by kernel_rfl
  rw [hh] at e5
  unfold LaidE
  simpa using World.var?_cell et e5 0

/-- A world that meets the condition: the settled one, the variable's cell laid. -/
noncomputable def laidWorld (os : Os) : World :=
  let w0 := World.holding Tryd.prog os ⟨#[], #[], []⟩
  { w0 with heap := w0.heap.modify 0 fun
      | .cells _ t frozen => .cells #[.iface 180 (.agg #[.pointer (some ⟨1, 34, none⟩)])] t frozen
      | o => o }
theorem laidWorld_met (os : Os) (args : Array Value) : laidMetH Tryd.prog Rows.lookBackRow.laid ((laidWorld os).forCall (fun _ _ => 0) ⟨#[], args, []⟩).memory :=
  laidMetH_of_parts (laidMet_nil _ _) (by kernel_rfl)

theorem cells3 : Tryd.prog.cellsOf 3 = 1 := by kernel_rfl
theorem cells74 : Tryd.prog.cellsOf 74 = 3 := by kernel_rfl

set_option maxRecDepth 100000 in
theorem lifted (os : Os) (started : os.Started) (H : Type) (enc : TypeId × Value → H) :
    ReturnsInHanded {} Tryd.checked os 13 .any (fun w args => (Rows.lookBackSpec.pre enc Tryd.prog Tryd.f13 [] false w args ∧ laidMetH Tryd.prog Rows.lookBackRow.laid w) ∧ sizedMet enc Tryd.prog Tryd.f13 (OpenSpec.ofChange Rows.lookBackSpec) false w args)
      (Rows.lookBackSpec.post enc Tryd.prog Tryd.f13 false true false false) := by
  refine returnsInHanded_of_change_and (C := Tryd.checked) (X := fun w _ => laidMetH Tryd.prog Rows.lookBackRow.laid w) (fun _ _ _ hh h => h.of_heap hh) own started (by kernel_rfl) Tryd.func13
    (ChangeSpec.witness_at (enc := enc) (C := Tryd.checked) (os := os) (X := fun w _ => laidMetH Tryd.prog Rows.lookBackRow.laid w) false (laidWorld os) #[.agg #[.slice none 0 0, .slice none 0 0, .int .i64 0]] 8 rfl (by kernel_rfl) (by kernel_rfl) (by kernel_rfl) (by kernel_rfl) (by kernel_rfl) (laidWorld_met os _)) ?_
  intro W base args ds gs before hval0 hW _ _ hL _
  have hval : ∀ (j : Nat) t v, Tryd.f13.params[j]? = some t → args[j]? = some v → Value.okWide Tryd.prog W .any base t v := hval0
  have hW' := hW
  obtain ⟨p, q, hA0, hV, rfl, hfz, hnd⟩ := hW
  have hA : DataW.TrodAll enc Tryd.prog W 0 (fun _ => true) true Tryd.f13.params.toList args.toList ds p := hA0
  rw [Tryd.params13] at hA hval
  have hg := handle_of_laid hL
  obtain ⟨v0, vs0, d0, ds0, p0, q0, hargs, rfl, rfl, h0, r0⟩ := trodAll_cons hA
  obtain ⟨rfl, rfl, rfl⟩ := trodAll_nil r0
  obtain rfl : args = #[v0] := by cases args; simp_all
  obtain ⟨rfl, rfl⟩ := trodVars_none hV
  obtain ⟨l0, rfl, hl0, m0, g0⟩ := open_struct Tryd.underlying74 (by kernel_rfl) cells74 (hval 0 74 v0 rfl rfl) h0
  obtain ⟨c0_0, c0_1, c0_2, rfl⟩ := list3 hl0
  obtain ⟨y0_0, g0_0⟩ := g0 0 _ rfl
  obtain ⟨y0_1, g0_1⟩ := g0 1 _ rfl
  obtain ⟨y0_2, g0_2⟩ := g0 2 _ rfl
  clear g0
  obtain ⟨n0_0, l0_0, hr0_0, hw0_0⟩ := open_ints_raw Tryd.underlying22 Tryd.underlying3 cells3 g0_0
  have hb0_0 : ∀ z ∈ l0_0, -9223372036854775808 ≤ z ∧ z ≤ 9223372036854775807 := fun z hz => i64_bd (hw0_0 z hz)
  obtain ⟨n0_1, l0_1, hr0_1, hw0_1⟩ := open_ints_raw Tryd.underlying22 Tryd.underlying3 cells3 g0_1
  have hb0_1 : ∀ z ∈ l0_1, -9223372036854775808 ≤ z ∧ z ≤ 9223372036854775807 := fun z hz => i64_bd (hw0_1 z hz)
  obtain ⟨a0_2, e0_2, _, w0_2⟩ := DataW.trod_int Tryd.underlying3 g0_2
  simp only [List.cons.injEq, and_true] at e0_2
  subst e0_2
  have b0_2 := i64_bd w0_2
  have hlaw : Calls Tryd.prog 13 #[.agg #[c0_0, c0_1, .int .i64 a0_2]] W fun e w' => e = .returned (.bool true) ∧ Below W.heap.size W w' := by
    exact law_LookBack c0_0 c0_1 n0_0 n0_1 l0_0 l0_1 a0_2 W hg hr0_0 hr0_1 hb0_0 hb0_1 b0_2
  refine Calls.mono hlaw fun e W' ⟨he, hg⟩ => ?_
  subst he
  exact ⟨_, rfl, law_post laidOut rowed vrowed rfl Tryd.underlying4 hW' rfl rfl rfl hg⟩

theorem over : Rows.lookBackRow.holds Tryd.pinned (OpenSpec.ofChange Rows.lookBackSpec) :=
  OpenClaim.holds_of_wide 13 Tryd.f13 rfl rfl rfl rfl rfl rfl rfl ⟨rfl, rfl, rfl, rfl, rfl⟩ rfl rfl rfl rfl rfl (by kernel_rfl) Tryd.func13 (by kernel_rfl)
    (of_decide_eq_true (by kernel_rfl)) (by unfold Func.isWrapper; first | (rw [if_pos (by decide +kernel)]; kernel_rfl) | (rw [if_neg (by decide +kernel)]; exact ⟨rfl, rfl⟩))
    (fun os started H enc _ => lifted os started H enc)

theorem noStand : (Tryd.f13.params.toList.any fun t => Tryd.prog.wantsStandIn t) = false := by kernel_rfl

theorem proved : Rows.LookBackCardSaid :=
  Claim7.holds_tied_plain_at .later [] [.handle] true (true, "aac04d5800c0736535e82a645757ca538ed165102e1b03f2c121a7655a0abc64") true
    over (fun _ h => by cases h) (by kernel_rfl) (fun _ h => by cases h) lookBack_row_tie rfl ⟨rfl, rfl⟩ (by kernel_rfl) rfl
    (fun f fn hf hfn => by
      obtain rfl : f = 13 := Option.some.inj ((show Tryd.prog.funcNamed "intaglio/intagliolaw09.LookBack" = some 13 by kernel_rfl).symm.trans hf) |>.symm
      obtain rfl : fn = Tryd.f13 := (Option.some.inj (Tryd.func13.symm.trans hfn)).symm
      exact ⟨by kernel_rfl, fun j t ht => by
        have hn := noStand
        rw [List.any_eq_false] at hn
        have hm : t ∈ Tryd.f13.params.toList := by
          rw [Array.mem_toList_iff]; exact Array.mem_of_getElem? ht
        exact (Bool.not_eq_true _).mp (hn t hm)⟩)
    (by kernel_rfl)
#print axioms proved
end Go.Proofs.YtogaclolodlnbaaDoor.lookBack

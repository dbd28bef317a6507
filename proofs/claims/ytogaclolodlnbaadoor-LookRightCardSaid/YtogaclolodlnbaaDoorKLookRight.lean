/- For every input, the law LookRight returns true and leaves its arguments as they were: no condition beyond the row's own; the one package variable is tied to the program's text. -/
import Derived.Test.YtogaclolodlnbaaDoorTie
import Derived.Test.YtogaclolodlnbaaDoorCards
import Derived.Test.YtogaclolodlnbaaDoorOpenA
import Derived.Test.YtogaclolodlnbaaDoorOpenN
import Derived.Test.YtogaclolodlnbaaDoorLKRight
import Derived.LaidLaws
import Derived.LaidHandle
import Derived.SevenTiedAt
set_option linter.unusedVariables false
namespace Go.Proofs.YtogaclolodlnbaaDoor.lookRight
open Go.ChangeShapes Go.WideShapes Go.ChangeAt Go.RowKit
open Go.ChangeMaps (open_string)

theorem own : ownKnob Tryd.prog.godebug = none := by kernel_rfl
theorem laidOut : laidOutB Tryd.prog = true := by kernel_rfl
theorem rowed : typesRowed Tryd.prog Tryd.f14.params.toList = true := by kernel_rfl
theorem vrowed : varsRowed Tryd.prog Rows.lookRightSpec.vars = true := by kernel_rfl
theorem et : Tryd.prog.globalNamed "errors.errorType" = some 0 := by kernel_rfl
theorem rt : (Tryd.prog.cutTypes.find? (·.1 == "internal/reflectlite.rtype")).map (·.2) = some 180 := by kernel_rfl
theorem oneRow : ((List.range 235).filter fun t => Tryd.prog.rowNamed t [101, 114, 114, 111, 114]) = [34] := by kernel_rfl
theorem size : Tryd.prog.types.size = 235 := by kernel_rfl

/-- What the row's condition gives the walk: the variable's one cell. -/
theorem handle_of_laid {W : World} (h : laidMetH Tryd.prog Rows.lookRightRow.laid W) : LaidE W := by
  have h' : laidMet Tryd.prog [] W ∧ handlesMet Tryd.prog Rows.lookRightRow.laid W := h
  obtain ⟨name, u, ty, e1, e2, e3, e4, e5⟩ := h'.2 _ (List.mem_singleton.2 rfl)
  have en : name = [101, 114, 114, 111, 114] := (Option.some.inj e1).symm
  subst en
  obtain rfl := Option.some.inj (rt.symm.trans e2)
  have hm : ty ∈ (List.range 235).filter fun t => Tryd.prog.rowNamed t [101, 114, 114, 111, 114] := List.mem_filter.2 ⟨List.mem_range.2 (by rw [← size]; exact e3), e4⟩
  rw [oneRow] at hm
  obtain rfl := List.mem_singleton.1 hm
  have hh : typeHandle Tryd.prog 34 = .pointer (some ⟨1, 34, none⟩) := by kernel_rfl
  rw [hh] at e5
  unfold LaidE
  simpa using World.var?_cell et e5 0

/-- A world that meets the condition: the settled one, the variable's cell laid. -/
noncomputable def laidWorld (os : Os) : World :=
  let w0 := World.holding Tryd.prog os ⟨#[], #[], []⟩
  { w0 with heap := w0.heap.modify 0 fun
      | .cells _ t frozen => .cells #[.iface 180 (.agg #[.pointer (some ⟨1, 34, none⟩)])] t frozen
      | o => o }
theorem laidWorld_met (os : Os) (args : Array Value) : laidMetH Tryd.prog Rows.lookRightRow.laid ((laidWorld os).forCall (fun _ _ => 0) ⟨#[], args, []⟩).memory :=
  laidMetH_of_parts (laidMet_nil _ _) (by kernel_rfl)

theorem cells3 : Tryd.prog.cellsOf 3 = 1 := by kernel_rfl
theorem cells38 : Tryd.prog.cellsOf 38 = 1 := by kernel_rfl
theorem cells74 : Tryd.prog.cellsOf 74 = 3 := by kernel_rfl
theorem cells81 : Tryd.prog.cellsOf 81 = 4 := by kernel_rfl
theorem cells83 : Tryd.prog.cellsOf 83 = 7 := by kernel_rfl

set_option maxRecDepth 100000 in
theorem lifted (os : Os) (started : os.Started) (H : Type) (enc : TypeId × Value → H) :
    ReturnsInHanded {} Tryd.checked os 14 .any (fun w args => (Rows.lookRightSpec.pre enc Tryd.prog Tryd.f14 [] false w args ∧ laidMetH Tryd.prog Rows.lookRightRow.laid w) ∧ sizedMet enc Tryd.prog Tryd.f14 (OpenSpec.ofChange Rows.lookRightSpec) false w args)
      (Rows.lookRightSpec.post enc Tryd.prog Tryd.f14 false true false false) := by
  refine returnsInHanded_of_change_and (C := Tryd.checked) (X := fun w _ => laidMetH Tryd.prog Rows.lookRightRow.laid w) (fun _ _ _ hh h => h.of_heap hh) own started (by kernel_rfl) Tryd.func14
    (ChangeSpec.witness_at (enc := enc) (C := Tryd.checked) (os := os) (X := fun w _ => laidMetH Tryd.prog Rows.lookRightRow.laid w) false (laidWorld os) #[.slice none 0 0, .agg #[.slice none 0 0, .slice none 0 0, .int .i64 0, .int .i64 0, .int .i64 0, .int .u64 0, .bool false], .slice none 0 0] 8 rfl (by kernel_rfl) (by kernel_rfl) (by kernel_rfl) (by kernel_rfl) (by kernel_rfl) (laidWorld_met os _)) ?_
  intro W base args ds gs before hval0 hW _ _ hL _
  have hval : ∀ (j : Nat) t v, Tryd.f14.params[j]? = some t → args[j]? = some v → Value.okWide Tryd.prog W .any base t v := hval0
  have hW' := hW
  obtain ⟨p, q, hA0, hV, rfl, hfz, hnd⟩ := hW
  have hA : DataW.TrodAll enc Tryd.prog W 0 (fun _ => true) true Tryd.f14.params.toList args.toList ds p := hA0
  rw [Tryd.params14] at hA hval
  have hg := handle_of_laid hL
  obtain ⟨v0, vs0, d0, ds0, p0, q0, hargs, rfl, rfl, h0, r0⟩ := trodAll_cons hA
  obtain ⟨v1, vs1, d1, ds1, p1, q1, rfl, rfl, rfl, h1, r1⟩ := trodAll_cons r0
  obtain ⟨v2, vs2, d2, ds2, p2, q2, rfl, rfl, rfl, h2, r2⟩ := trodAll_cons r1
  obtain ⟨rfl, rfl, rfl⟩ := trodAll_nil r2
  obtain rfl : args = #[v0, v1, v2] := by cases args; simp_all
  obtain ⟨rfl, rfl⟩ := trodVars_none hV
  obtain ⟨n0, l0, hr0⟩ := open_u64s Tryd.underlying28 Tryd.underlying38 cells38 (hval 0 28 v0 rfl rfl) h0
  obtain ⟨c1_0, c1_1, c1_2, c1_3, c1_4, c1_5, c1_6, rfl, m1, y1a, y1b, g1a, g1b⟩ := open_nest _ _ Tryd.underlying83 rfl rfl rfl rfl cells74 cells81 cells83 (hval 1 83 v1 rfl rfl) h1
  obtain ⟨m1a, g1a⟩ := trod_flat Tryd.underlying74 (by kernel_rfl) rfl g1a
  obtain ⟨m1b, g1b⟩ := trod_flat Tryd.underlying81 (by kernel_rfl) rfl g1b
  obtain ⟨y1_0, g1_0⟩ := g1a 0 _ rfl
  obtain ⟨y1_1, g1_1⟩ := g1a 1 _ rfl
  obtain ⟨y1_2, g1_2⟩ := g1a 2 _ rfl
  obtain ⟨y1_3, g1_3⟩ := g1b 0 _ rfl
  obtain ⟨y1_4, g1_4⟩ := g1b 1 _ rfl
  obtain ⟨y1_5, g1_5⟩ := g1b 2 _ rfl
  obtain ⟨y1_6, g1_6⟩ := g1b 3 _ rfl
  clear g1a g1b
  obtain ⟨n1_0, l1_0, hr1_0, hw1_0⟩ := open_ints_raw Tryd.underlying22 Tryd.underlying3 cells3 g1_0
  have hb1_0 : ∀ z ∈ l1_0, -9223372036854775808 ≤ z ∧ z ≤ 9223372036854775807 := fun z hz => i64_bd (hw1_0 z hz)
  obtain ⟨n1_1, l1_1, hr1_1, hw1_1⟩ := open_ints_raw Tryd.underlying22 Tryd.underlying3 cells3 g1_1
  have hb1_1 : ∀ z ∈ l1_1, -9223372036854775808 ≤ z ∧ z ≤ 9223372036854775807 := fun z hz => i64_bd (hw1_1 z hz)
  obtain ⟨a1_2, e1_2, _, w1_2⟩ := DataW.trod_int Tryd.underlying3 g1_2
  have f1_2 : c1_2 = .int .i64 a1_2 := (List.cons.inj e1_2).1
  subst f1_2
  have b1_2 := i64_bd w1_2
  obtain ⟨a1_3, e1_3, _, w1_3⟩ := DataW.trod_int Tryd.underlying3 g1_3
  have f1_3 : c1_3 = .int .i64 a1_3 := (List.cons.inj e1_3).1
  subst f1_3
  have b1_3 := i64_bd w1_3
  obtain ⟨a1_4, e1_4, _, w1_4⟩ := DataW.trod_int Tryd.underlying3 g1_4
  have f1_4 : c1_4 = .int .i64 a1_4 := (List.cons.inj e1_4).1
  subst f1_4
  have b1_4 := i64_bd w1_4
  obtain ⟨a1_5, e1_5, _, w1_5⟩ := DataW.trod_int Tryd.underlying38 g1_5
  have f1_5 : c1_5 = .int .u64 a1_5 := (List.cons.inj e1_5).1
  subst f1_5
  have b1_5 := u64_bd w1_5
  obtain ⟨a1_6, e1_6, _⟩ := DataW.trod_bool Tryd.underlying4 g1_6
  have f1_6 : c1_6 = .bool a1_6 := (List.cons.inj e1_6).1
  subst f1_6
  obtain ⟨n2, l2, hr2, hw2⟩ := open_ints_row Tryd.underlying22 Tryd.underlying3 cells3 (hval 2 22 v2 rfl rfl) h2
  have hb2 : ∀ z ∈ l2, -9223372036854775808 ≤ z ∧ z ≤ 9223372036854775807 := fun z hz => i64_bd (hw2 z hz)
  have hlaw : Calls Tryd.prog 14 #[v0, .agg #[c1_0, c1_1, .int .i64 a1_2, .int .i64 a1_3, .int .i64 a1_4, .int .u64 a1_5, .bool a1_6], v2] W fun e w' => e = .returned (.bool true) ∧ Below W.heap.size W w' := by
    rw [U_of a1_5 b1_5.1 b1_5.2]
    exact law_LookRight v0 n0 l0 c1_0 c1_1 n1_0 n1_1 l1_0 l1_1 a1_2 a1_3 a1_4 _ a1_6 v2 n2 l2 W hg hr0 hr1_0 hr1_1 hb1_0 hb1_1 b1_2 b1_3 hr2
  refine Calls.mono hlaw fun e W' ⟨he, hg⟩ => ?_
  subst he
  exact ⟨_, rfl, law_post laidOut rowed vrowed rfl Tryd.underlying4 hW' rfl rfl rfl hg⟩

theorem over : Rows.lookRightRow.holds Tryd.pinned (OpenSpec.ofChange Rows.lookRightSpec) :=
  OpenClaim.holds_of_wide 14 Tryd.f14 rfl rfl rfl rfl rfl rfl rfl ⟨rfl, rfl, rfl, rfl, rfl⟩ rfl rfl rfl rfl rfl (by kernel_rfl) Tryd.func14 (by kernel_rfl)
    (of_decide_eq_true (by kernel_rfl)) (by unfold Func.isWrapper; first | (rw [if_pos (by decide +kernel)]; kernel_rfl) | (rw [if_neg (by decide +kernel)]; exact ⟨rfl, rfl⟩))
    (fun os started H enc _ => lifted os started H enc)

theorem noStand : (Tryd.f14.params.toList.any fun t => Tryd.prog.wantsStandIn t) = false := by kernel_rfl

theorem proved : Rows.LookRightCardSaid :=
  Claim7.holds_tied_plain_at .later [] [.handle] true (true, "aac04d5800c0736535e82a645757ca538ed165102e1b03f2c121a7655a0abc64") true
    over (fun _ h => by cases h) (by kernel_rfl) (fun _ h => by cases h) lookRight_row_tie rfl ⟨rfl, rfl⟩ (by kernel_rfl) rfl
    (fun f fn hf hfn => by
      obtain rfl : f = 14 := Option.some.inj ((show Tryd.prog.funcNamed "intaglio/intagliolaw09.LookRight" = some 14 by kernel_rfl).symm.trans hf) |>.symm
      obtain rfl : fn = Tryd.f14 := (Option.some.inj (Tryd.func14.symm.trans hfn)).symm
      exact ⟨by kernel_rfl, fun j t ht => by
        have hn := noStand
        rw [List.any_eq_false] at hn
        have hm : t ∈ Tryd.f14.params.toList := by
          rw [Array.mem_toList_iff]; exact Array.mem_of_getElem? ht
        exact (Bool.not_eq_true _).mp (hn t hm)⟩)
    (by kernel_rfl)
#print axioms proved
end Go.Proofs.YtogaclolodlnbaaDoor.lookRight

/- For every input, the law LookDecodes returns true and leaves its arguments as they were: no condition beyond the row's own; the one package variable is tied to the program's text. -/
import Derived.Test.YtogaclolodlnbaaGreatDoorTie
import Derived.Test.YtogaclolodlnbaaGreatDoorCards
import Derived.Test.YtogaclolodlnbaaGreatDoorOpenA
import Derived.Test.YtogaclolodlnbaaGreatDoorOpenN
import Derived.Test.YtogaclolodlnbaaGreatDoorLKDecs
import Derived.LaidLaws
import Derived.LaidHandle
import Derived.SevenTiedAt
set_option linter.unusedVariables false
namespace Go.Proofs.YtogaclolodlnbaaGreatDoor.lookDecodes
open Go.ChangeShapes Go.WideShapes Go.ChangeAt Go.RowKit
open Go.ChangeMaps (open_string)

theorem own : ownKnob Tryz.prog.godebug = none := by kernel_rfl
theorem laidOut : laidOutB Tryz.prog = true := by kernel_rfl
theorem rowed : typesRowed Tryz.prog Tryz.f3.params.toList = true := by kernel_rfl
theorem vrowed : varsRowed Tryz.prog Rows.lookDecodesSpec.vars = true := by kernel_rfl
theorem et : Tryz.prog.globalNamed "errors.errorType" = some 0 := by kernel_rfl
theorem rt : (Tryz.prog.cutTypes.find? (·.1 == "internal/reflectlite.rtype")).map (·.2) = some 152 := by kernel_rfl
theorem oneRow : ((List.range 207).filter fun t => Tryz.prog.rowNamed t [101, 114, 114, 111, 114]) = [52] := by kernel_rfl
theorem size : Tryz.prog.types.size = 207 := by kernel_rfl

/-- What the row's condition gives the walk: the variable's one cell. -/
theorem handle_of_laid {W : World} (h : laidMetH Tryz.prog Rows.lookDecodesRow.laid W) : LaidE W := by
  have h' : laidMet Tryz.prog [] W ∧ handlesMet Tryz.prog Rows.lookDecodesRow.laid W := h
  obtain ⟨name, u, ty, e1, e2, e3, e4, e5⟩ := h'.2 _ (List.mem_singleton.2 rfl)
  have en : name = [101, 114, 114, 111, 114] := (Option.some.inj e1).symm
  subst en
  obtain rfl := Option.some.inj (rt.symm.trans e2)
  have hm : ty ∈ (List.range 207).filter fun t => Tryz.prog.rowNamed t [101, 114, 114, 111, 114] := List.mem_filter.2 ⟨List.mem_range.2 (by rw [← size]; exact e3), e4⟩
  rw [oneRow] at hm
  obtain rfl := List.mem_singleton.1 hm
  have hh : typeHandle Tryz.prog 52 = .pointer (some ⟨1, 52, none⟩) := by kernel_rfl
  rw [hh] at e5
  unfold LaidE
  simpa using World.var?_cell et e5 0

/-- A world that meets the condition: the settled one, the variable's cell laid. -/
noncomputable def laidWorld (os : Os) : World :=
  let w0 := World.holding Tryz.prog os ⟨#[], #[], []⟩
  { w0 with heap := w0.heap.modify 0 fun
      | .cells _ t frozen => .cells #[.iface 152 (.agg #[.pointer (some ⟨1, 52, none⟩)])] t frozen
      | o => o }
theorem laidWorld_met (os : Os) (args : Array Value) : laidMetH Tryz.prog Rows.lookDecodesRow.laid ((laidWorld os).forCall (fun _ _ => 0) ⟨#[], args, []⟩).memory :=
  laidMetH_of_parts (laidMet_nil _ _) (by kernel_rfl)

theorem cells3 : Tryz.prog.cellsOf 3 = 1 := by kernel_rfl
theorem cells25 : Tryz.prog.cellsOf 25 = 3 := by kernel_rfl
theorem cells26 : Tryz.prog.cellsOf 26 = 1 := by kernel_rfl
theorem cells28 : Tryz.prog.cellsOf 28 = 4 := by kernel_rfl
theorem cells30 : Tryz.prog.cellsOf 30 = 7 := by kernel_rfl

set_option maxRecDepth 100000 in
theorem lifted (os : Os) (started : os.Started) (H : Type) (enc : TypeId × Value → H) :
    ReturnsInHanded {} Tryz.checked os 3 .any (fun w args => (Rows.lookDecodesSpec.pre enc Tryz.prog Tryz.f3 [] false w args ∧ laidMetH Tryz.prog Rows.lookDecodesRow.laid w) ∧ sizedMet enc Tryz.prog Tryz.f3 (OpenSpec.ofChange Rows.lookDecodesSpec) false w args)
      (Rows.lookDecodesSpec.post enc Tryz.prog Tryz.f3 false true false false) := by
  refine returnsInHanded_of_change_and (C := Tryz.checked) (X := fun w _ => laidMetH Tryz.prog Rows.lookDecodesRow.laid w) (fun _ _ _ hh h => h.of_heap hh) own started (by kernel_rfl) Tryz.func3
    (ChangeSpec.witness_at (enc := enc) (C := Tryz.checked) (os := os) (X := fun w _ => laidMetH Tryz.prog Rows.lookDecodesRow.laid w) false (laidWorld os) #[.slice none 0 0, .agg #[.slice none 0 0, .slice none 0 0, .int .i64 0, .int .i64 0, .int .i64 0, .int .u64 0, .bool false], .slice none 0 0] 8 rfl (by kernel_rfl) (by kernel_rfl) (by kernel_rfl) (by kernel_rfl) (by kernel_rfl) (laidWorld_met os _)) ?_
  intro W base args ds gs before hval0 hW _ _ hL _
  have hval : ∀ (j : Nat) t v, Tryz.f3.params[j]? = some t → args[j]? = some v → Value.okWide Tryz.prog W .any base t v := hval0
  have hW' := hW
  obtain ⟨p, q, hA0, hV, rfl, hfz, hnd⟩ := hW
  have hA : DataW.TrodAll enc Tryz.prog W 0 (fun _ => true) true Tryz.f3.params.toList args.toList ds p := hA0
  rw [Tryz.params3] at hA hval
  have hg := handle_of_laid hL
  obtain ⟨v0, vs0, d0, ds0, p0, q0, hargs, rfl, rfl, h0, r0⟩ := trodAll_cons hA
  obtain ⟨v1, vs1, d1, ds1, p1, q1, rfl, rfl, rfl, h1, r1⟩ := trodAll_cons r0
  obtain ⟨v2, vs2, d2, ds2, p2, q2, rfl, rfl, rfl, h2, r2⟩ := trodAll_cons r1
  obtain ⟨rfl, rfl, rfl⟩ := trodAll_nil r2
  obtain rfl : args = #[v0, v1, v2] := by cases args; simp_all
  obtain ⟨rfl, rfl⟩ := trodVars_none hV
  obtain ⟨n0, l0, hr0⟩ := open_u64s Tryz.underlying22 Tryz.underlying26 cells26 (hval 0 22 v0 rfl rfl) h0
  obtain ⟨c1_0, c1_1, c1_2, c1_3, c1_4, c1_5, c1_6, rfl, m1, y1a, y1b, g1a, g1b⟩ := open_nest _ _ Tryz.underlying30 rfl rfl rfl rfl cells25 cells28 cells30 (hval 1 30 v1 rfl rfl) h1
  obtain ⟨m1a, g1a⟩ := trod_flat Tryz.underlying25 (by kernel_rfl) rfl g1a
  obtain ⟨m1b, g1b⟩ := trod_flat Tryz.underlying28 (by kernel_rfl) rfl g1b
  obtain ⟨y1_0, g1_0⟩ := g1a 0 _ rfl
  obtain ⟨y1_1, g1_1⟩ := g1a 1 _ rfl
  obtain ⟨y1_2, g1_2⟩ := g1a 2 _ rfl
  obtain ⟨y1_3, g1_3⟩ := g1b 0 _ rfl
  obtain ⟨y1_4, g1_4⟩ := g1b 1 _ rfl
  obtain ⟨y1_5, g1_5⟩ := g1b 2 _ rfl
  obtain ⟨y1_6, g1_6⟩ := g1b 3 _ rfl
  clear g1a g1b
  obtain ⟨n1_0, l1_0, hr1_0, hw1_0⟩ := open_ints_raw Tryz.underlying23 Tryz.underlying3 cells3 g1_0
  have hb1_0 : ∀ z ∈ l1_0, -9223372036854775808 ≤ z ∧ z ≤ 9223372036854775807 := fun z hz => i64_bd (hw1_0 z hz)
  obtain ⟨n1_1, l1_1, hr1_1, hw1_1⟩ := open_ints_raw Tryz.underlying23 Tryz.underlying3 cells3 g1_1
  have hb1_1 : ∀ z ∈ l1_1, -9223372036854775808 ≤ z ∧ z ≤ 9223372036854775807 := fun z hz => i64_bd (hw1_1 z hz)
  obtain ⟨a1_2, e1_2, _, w1_2⟩ := DataW.trod_int Tryz.underlying3 g1_2
  have f1_2 : c1_2 = .int .i64 a1_2 := (List.cons.inj e1_2).1
  subst f1_2
  have b1_2 := i64_bd w1_2
  obtain ⟨a1_3, e1_3, _, w1_3⟩ := DataW.trod_int Tryz.underlying3 g1_3
  have f1_3 : c1_3 = .int .i64 a1_3 := (List.cons.inj e1_3).1
  subst f1_3
  have b1_3 := i64_bd w1_3
  obtain ⟨a1_4, e1_4, _, w1_4⟩ := DataW.trod_int Tryz.underlying3 g1_4
  have f1_4 : c1_4 = .int .i64 a1_4 := (List.cons.inj e1_4).1
  subst f1_4
  have b1_4 := i64_bd w1_4
  obtain ⟨a1_5, e1_5, _, w1_5⟩ := DataW.trod_int Tryz.underlying26 g1_5
  have f1_5 : c1_5 = .int .u64 a1_5 := (List.cons.inj e1_5).1
  subst f1_5
  have b1_5 := u64_bd w1_5
  obtain ⟨a1_6, e1_6, _⟩ := DataW.trod_bool Tryz.underlying4 g1_6
  have f1_6 : c1_6 = .bool a1_6 := (List.cons.inj e1_6).1
  subst f1_6
  obtain ⟨n2, l2, hr2, hw2⟩ := open_ints_row Tryz.underlying23 Tryz.underlying3 cells3 (hval 2 23 v2 rfl rfl) h2
  have hb2 : ∀ z ∈ l2, -9223372036854775808 ≤ z ∧ z ≤ 9223372036854775807 := fun z hz => i64_bd (hw2 z hz)
  have hlaw : Calls Tryz.prog 3 #[v0, .agg #[c1_0, c1_1, .int .i64 a1_2, .int .i64 a1_3, .int .i64 a1_4, .int .u64 a1_5, .bool a1_6], v2] W fun e w' => e = .returned (.bool true) ∧ Below W.heap.size W w' := by
    rw [U_of a1_5 b1_5.1 b1_5.2]
    exact law_LookDecodes v0 n0 l0 c1_0 c1_1 n1_0 n1_1 l1_0 l1_1 a1_2 a1_3 a1_4 _ a1_6 v2 n2 l2 W hg hr0 hr1_0 hr1_1 hb1_0 hb1_1 b1_2 b1_3 hr2
  refine Calls.mono hlaw fun e W' ⟨he, hg⟩ => ?_
  subst he
  exact ⟨_, rfl, law_post laidOut rowed vrowed rfl Tryz.underlying4 hW' rfl rfl rfl hg⟩

theorem over : Rows.lookDecodesRow.holds Tryz.pinned (OpenSpec.ofChange Rows.lookDecodesSpec) :=
  OpenClaim.holds_of_wide 3 Tryz.f3 rfl rfl rfl rfl rfl rfl rfl ⟨rfl, rfl, rfl, rfl, rfl⟩ rfl rfl rfl rfl rfl (by kernel_rfl) Tryz.func3 (by kernel_rfl)
    (of_decide_eq_true (by kernel_rfl)) (by unfold Func.isWrapper; first | (rw [if_pos (by decide +kernel)]; kernel_rfl) | (rw [if_neg (by decide +kernel)]; exact ⟨rfl, rfl⟩))
    (fun os started H enc _ => lifted os started H enc)

theorem noStand : (Tryz.f3.params.toList.any fun t => Tryz.prog.wantsStandIn t) = false := by kernel_rfl

theorem proved : Rows.LookDecodesCardSaid :=
  Claim7.holds_tied_plain_at .later [] [.handle] true (true, "6ab5d6f97e09ba14ba5c9b187c2cce0a2bc72bbc3dee580ffbe37fe65adc8137") true
    over (fun _ h => by cases h) (by kernel_rfl) (fun _ h => by cases h) lookDecodes_row_tie rfl ⟨rfl, rfl⟩ (by kernel_rfl) rfl
    (fun f fn hf hfn => by
      obtain rfl : f = 3 := Option.some.inj ((show Tryz.prog.funcNamed "intaglio/intagliolaw09.LookDecodes" = some 3 by kernel_rfl).symm.trans hf) |>.symm
      obtain rfl : fn = Tryz.f3 := (Option.some.inj (Tryz.func3.symm.trans hfn)).symm
      exact ⟨by kernel_rfl, fun j t ht => by
        have hn := noStand
        rw [List.any_eq_false] at hn
        have hm : t ∈ Tryz.f3.params.toList := by
          rw [Array.mem_toList_iff]; exact Array.mem_of_getElem? ht
        exact (Bool.not_eq_true _).mp (hn t hm)⟩)
    (by kernel_rfl)
#print axioms proved
end Go.Proofs.YtogaclolodlnbaaGreatDoor.lookDecodes

/- For every input, the law ValidTells returns true and leaves its arguments as they were: no condition beyond the row's own; the one package variable is tied to the program's text. -/
import Derived.Test.YtogaclolodlnbaaDoorTie
import Derived.Test.YtogaclolodlnbaaDoorCards
import Derived.Test.YtogaclolodlnbaaDoorOpenA
import Derived.Test.YtogaclolodlnbaaDoorOpenT
import Derived.Test.YtogaclolodlnbaaDoorLVTells
import Derived.LaidLaws
import Derived.LaidHandle
import Derived.SevenTiedAt
set_option linter.unusedVariables false
namespace Go.Proofs.YtogaclolodlnbaaDoor.validTells
open Go.ChangeShapes Go.WideShapes Go.ChangeAt Go.RowKit
open Go.ChangeMaps (open_string)

theorem own : ownKnob Tryd.prog.godebug = none := by kernel_rfl
theorem laidOut : laidOutB Tryd.prog = true := by kernel_rfl
theorem rowed : typesRowed Tryd.prog Tryd.f11.params.toList = true := by kernel_rfl
theorem vrowed : varsRowed Tryd.prog Rows.validTellsSpec.vars = true := by kernel_rfl
theorem et : Tryd.prog.globalNamed "errors.errorType" = some 0 := by kernel_rfl
theorem rt : (Tryd.prog.cutTypes.find? (·.1 == "internal/reflectlite.rtype")).map (·.2) = some 180 := by kernel_rfl
theorem oneRow : ((List.range 235).filter fun t => Tryd.prog.rowNamed t [101, 114, 114, 111, 114]) = [34] := by kernel_rfl
theorem size : Tryd.prog.types.size = 235 := by kernel_rfl

/-- What the row's condition gives the walk: the variable's one cell. -/
theorem handle_of_laid {W : World} (h : laidMetH Tryd.prog Rows.validTellsRow.laid W) : LaidE W := by
  have h' : laidMet Tryd.prog [] W ∧ handlesMet Tryd.prog Rows.validTellsRow.laid W := h
  obtain ⟨name, u, ty, e1, e2, e3, e4, e5⟩ := h'.2 _ (List.mem_singleton.2 rfl)
  have en : name = [101, 114, 114, 111, 114] := (Option.some.inj e1).symm
  subst en
  obtain rfl := Option.some.inj (rt.symm.trans e2)
  have hm : ty ∈ (List.range 235).filter fun t => Tryd.prog.rowNamed t [101, 114, 114, 111, 114] := List.mem_filter.2 ⟨List.mem_range.2 (by rw [← size]; exact e3), e4⟩
  rw [oneRow] at hm
  obtain rfl := List.mem_singleton.1 hm
  have hh : typeHandle Tryd.prog 34 = .pointer (some ⟨1, 34, none⟩) := by kernel_rfl
  rw [hh] at e5
  unfold LaidE
  simpa using World.var?_cell et e5 0

/-- A world that meets the condition: the settled one, the variable's cell laid. -/
noncomputable def laidWorld (os : Os) : World :=
  let w0 := World.holding Tryd.prog os ⟨#[], #[], []⟩
  { w0 with heap := w0.heap.modify 0 fun
      | .cells _ t frozen => .cells #[.iface 180 (.agg #[.pointer (some ⟨1, 34, none⟩)])] t frozen
      | o => o }
theorem laidWorld_met (os : Os) (args : Array Value) : laidMetH Tryd.prog Rows.validTellsRow.laid ((laidWorld os).forCall (fun _ _ => 0) ⟨#[], args, []⟩).memory :=
  laidMetH_of_parts (laidMet_nil _ _) (by kernel_rfl)

theorem cells3 : Tryd.prog.cellsOf 3 = 1 := by kernel_rfl
theorem cells24 : Tryd.prog.cellsOf 24 = 3 := by kernel_rfl
theorem cells38 : Tryd.prog.cellsOf 38 = 1 := by kernel_rfl
theorem cells40 : Tryd.prog.cellsOf 40 = 4 := by kernel_rfl
theorem cells69 : Tryd.prog.cellsOf 69 = 8 := by kernel_rfl

set_option maxRecDepth 100000 in
theorem lifted (os : Os) (started : os.Started) (H : Type) (enc : TypeId × Value → H) :
    ReturnsInHanded {} Tryd.checked os 11 .any (fun w args => (Rows.validTellsSpec.pre enc Tryd.prog Tryd.f11 [] false w args ∧ laidMetH Tryd.prog Rows.validTellsRow.laid w) ∧ sizedMet enc Tryd.prog Tryd.f11 (OpenSpec.ofChange Rows.validTellsSpec) false w args)
      (Rows.validTellsSpec.post enc Tryd.prog Tryd.f11 false true false false) := by
  refine returnsInHanded_of_change_and (C := Tryd.checked) (X := fun w _ => laidMetH Tryd.prog Rows.validTellsRow.laid w) (fun _ _ _ hh h => h.of_heap hh) own started (by kernel_rfl) Tryd.func11
    (ChangeSpec.witness_at (enc := enc) (C := Tryd.checked) (os := os) (X := fun w _ => laidMetH Tryd.prog Rows.validTellsRow.laid w) false (laidWorld os) #[.slice none 0 0, .agg #[.slice none 0 0, .slice none 0 0, .int .i64 0], .agg #[.int .i64 0, .int .i64 0, .int .i64 0, .int .u64 0, .int .i64 0, .int .i64 0, .int .i64 0, .int .u64 0]] 8 rfl (by kernel_rfl) (by kernel_rfl) (by kernel_rfl) (by kernel_rfl) (by kernel_rfl) (laidWorld_met os _)) ?_
  intro W base args ds gs before hval0 hW _ _ hL _
  have hval : ∀ (j : Nat) t v, Tryd.f11.params[j]? = some t → args[j]? = some v → Value.okWide Tryd.prog W .any base t v := hval0
  have hW' := hW
  obtain ⟨p, q, hA0, hV, rfl, hfz, hnd⟩ := hW
  have hA : DataW.TrodAll enc Tryd.prog W 0 (fun _ => true) true Tryd.f11.params.toList args.toList ds p := hA0
  rw [Tryd.params11] at hA hval
  have hg := handle_of_laid hL
  obtain ⟨v0, vs0, d0, ds0, p0, q0, hargs, rfl, rfl, h0, r0⟩ := trodAll_cons hA
  obtain ⟨v1, vs1, d1, ds1, p1, q1, rfl, rfl, rfl, h1, r1⟩ := trodAll_cons r0
  obtain ⟨v2, vs2, d2, ds2, p2, q2, rfl, rfl, rfl, h2, r2⟩ := trodAll_cons r1
  obtain ⟨rfl, rfl, rfl⟩ := trodAll_nil r2
  obtain rfl : args = #[v0, v1, v2] := by cases args; simp_all
  obtain ⟨rfl, rfl⟩ := trodVars_none hV
  obtain ⟨n0, l0, hr0⟩ := open_u64s Tryd.underlying28 Tryd.underlying38 cells38 (hval 0 28 v0 rfl rfl) h0
  obtain ⟨l1, rfl, hl1, m1, g1⟩ := open_struct Tryd.underlying24 (by kernel_rfl) cells24 (hval 1 24 v1 rfl rfl) h1
  obtain ⟨c1_0, c1_1, c1_2, rfl⟩ := list3 hl1
  obtain ⟨y1_0, g1_0⟩ := g1 0 _ rfl
  obtain ⟨y1_1, g1_1⟩ := g1 1 _ rfl
  obtain ⟨y1_2, g1_2⟩ := g1 2 _ rfl
  clear g1
  obtain ⟨n1_0, l1_0, hr1_0, hw1_0⟩ := open_ints_raw Tryd.underlying22 Tryd.underlying3 cells3 g1_0
  have hb1_0 : ∀ z ∈ l1_0, -9223372036854775808 ≤ z ∧ z ≤ 9223372036854775807 := fun z hz => i64_bd (hw1_0 z hz)
  obtain ⟨n1_1, l1_1, hr1_1, hw1_1⟩ := open_ints_raw Tryd.underlying22 Tryd.underlying3 cells3 g1_1
  have hb1_1 : ∀ z ∈ l1_1, -9223372036854775808 ≤ z ∧ z ≤ 9223372036854775807 := fun z hz => i64_bd (hw1_1 z hz)
  obtain ⟨a1_2, e1_2, _, w1_2⟩ := DataW.trod_int Tryd.underlying3 g1_2
  simp only [List.cons.injEq, and_true] at e1_2
  subst e1_2
  have b1_2 := i64_bd w1_2
  obtain ⟨l2, rfl, hl2, g2⟩ := open_arr_struct (k := 4) Tryd.underlying69 Tryd.underlying40 (by kernel_rfl) rfl cells40 cells69 (hval 2 69 v2 rfl rfl) h2
  obtain ⟨c2_0, c2_1, c2_2, c2_3, c2_4, c2_5, c2_6, c2_7, rfl⟩ := list8 hl2
  obtain ⟨m2_0, y2_0, g2_0⟩ := g2 0 (by omega) 0 _ rfl
  obtain ⟨m2_1, y2_1, g2_1⟩ := g2 0 (by omega) 1 _ rfl
  obtain ⟨m2_2, y2_2, g2_2⟩ := g2 0 (by omega) 2 _ rfl
  obtain ⟨m2_3, y2_3, g2_3⟩ := g2 0 (by omega) 3 _ rfl
  obtain ⟨m2_4, y2_4, g2_4⟩ := g2 1 (by omega) 0 _ rfl
  obtain ⟨m2_5, y2_5, g2_5⟩ := g2 1 (by omega) 1 _ rfl
  obtain ⟨m2_6, y2_6, g2_6⟩ := g2 1 (by omega) 2 _ rfl
  obtain ⟨m2_7, y2_7, g2_7⟩ := g2 1 (by omega) 3 _ rfl
  clear g2
  obtain ⟨a2_0, e2_0, _, w2_0⟩ := DataW.trod_int Tryd.underlying3 g2_0
  have f2_0 : c2_0 = .int .i64 a2_0 := (List.cons.inj e2_0).1
  subst f2_0
  have b2_0 := i64_bd w2_0
  obtain ⟨a2_1, e2_1, _, w2_1⟩ := DataW.trod_int Tryd.underlying3 g2_1
  have f2_1 : c2_1 = .int .i64 a2_1 := (List.cons.inj e2_1).1
  subst f2_1
  have b2_1 := i64_bd w2_1
  obtain ⟨a2_2, e2_2, _, w2_2⟩ := DataW.trod_int Tryd.underlying3 g2_2
  have f2_2 : c2_2 = .int .i64 a2_2 := (List.cons.inj e2_2).1
  subst f2_2
  have b2_2 := i64_bd w2_2
  obtain ⟨a2_3, e2_3, _, w2_3⟩ := DataW.trod_int Tryd.underlying38 g2_3
  have f2_3 : c2_3 = .int .u64 a2_3 := (List.cons.inj e2_3).1
  subst f2_3
  have b2_3 := u64_bd w2_3
  obtain ⟨a2_4, e2_4, _, w2_4⟩ := DataW.trod_int Tryd.underlying3 g2_4
  have f2_4 : c2_4 = .int .i64 a2_4 := (List.cons.inj e2_4).1
  subst f2_4
  have b2_4 := i64_bd w2_4
  obtain ⟨a2_5, e2_5, _, w2_5⟩ := DataW.trod_int Tryd.underlying3 g2_5
  have f2_5 : c2_5 = .int .i64 a2_5 := (List.cons.inj e2_5).1
  subst f2_5
  have b2_5 := i64_bd w2_5
  obtain ⟨a2_6, e2_6, _, w2_6⟩ := DataW.trod_int Tryd.underlying3 g2_6
  have f2_6 : c2_6 = .int .i64 a2_6 := (List.cons.inj e2_6).1
  subst f2_6
  have b2_6 := i64_bd w2_6
  obtain ⟨a2_7, e2_7, _, w2_7⟩ := DataW.trod_int Tryd.underlying38 g2_7
  have f2_7 : c2_7 = .int .u64 a2_7 := (List.cons.inj e2_7).1
  subst f2_7
  have b2_7 := u64_bd w2_7
  have hlaw : Calls Tryd.prog 11 #[v0, .agg #[c1_0, c1_1, .int .i64 a1_2], .agg #[.int .i64 a2_0, .int .i64 a2_1, .int .i64 a2_2, .int .u64 a2_3, .int .i64 a2_4, .int .i64 a2_5, .int .i64 a2_6, .int .u64 a2_7]] W fun e w' => e = .returned (.bool true) ∧ Below W.heap.size W w' := by
    rw [U_of a2_3 b2_3.1 b2_3.2, U_of a2_7 b2_7.1 b2_7.2]
    exact law_ValidTells v0 n0 l0 c1_0 c1_1 n1_0 n1_1 l1_0 l1_1 a1_2 a2_0 a2_1 a2_2 _ a2_4 a2_5 a2_6 _ W hg hr0 hr1_0 hr1_1 hb1_0 hb1_1 b1_2 b2_1 b2_5
  refine Calls.mono hlaw fun e W' ⟨he, hg⟩ => ?_
  subst he
  exact ⟨_, rfl, law_post laidOut rowed vrowed rfl Tryd.underlying4 hW' rfl rfl rfl hg⟩

theorem over : Rows.validTellsRow.holds Tryd.pinned (OpenSpec.ofChange Rows.validTellsSpec) :=
  OpenClaim.holds_of_wide 11 Tryd.f11 rfl rfl rfl rfl rfl rfl rfl ⟨rfl, rfl, rfl, rfl, rfl⟩ rfl rfl rfl rfl rfl (by kernel_rfl) Tryd.func11 (by kernel_rfl)
    (of_decide_eq_true (by kernel_rfl)) (by unfold Func.isWrapper; first | (rw [if_pos (by decide +kernel)]; kernel_rfl) | (rw [if_neg (by decide +kernel)]; exact ⟨rfl, rfl⟩))
    (fun os started H enc _ => lifted os started H enc)

theorem noStand : (Tryd.f11.params.toList.any fun t => Tryd.prog.wantsStandIn t) = false := by kernel_rfl

theorem proved : Rows.ValidTellsCardSaid :=
  Claim7.holds_tied_plain_at .later [] [.handle] true (true, "aac04d5800c0736535e82a645757ca538ed165102e1b03f2c121a7655a0abc64") true
    over (fun _ h => by cases h) (by kernel_rfl) (fun _ h => by cases h) validTells_row_tie rfl ⟨rfl, rfl⟩ (by kernel_rfl) rfl
    (fun f fn hf hfn => by
      obtain rfl : f = 11 := Option.some.inj ((show Tryd.prog.funcNamed "intaglio/intagliolaw08.ValidTells" = some 11 by kernel_rfl).symm.trans hf) |>.symm
      obtain rfl : fn = Tryd.f11 := (Option.some.inj (Tryd.func11.symm.trans hfn)).symm
      exact ⟨by kernel_rfl, fun j t ht => by
        have hn := noStand
        rw [List.any_eq_false] at hn
        have hm : t ∈ Tryd.f11.params.toList := by
          rw [Array.mem_toList_iff]; exact Array.mem_of_getElem? ht
        exact (Bool.not_eq_true _).mp (hn t hm)⟩)
    (by kernel_rfl)
#print axioms proved
end Go.Proofs.YtogaclolodlnbaaDoor.validTells

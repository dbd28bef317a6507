/- For every input, the law LookAsks returns true and leaves its arguments as they were: no condition beyond the row's own; the one package variable is tied to the program's text. -/
import Derived.Test.YtblbhlgihlgncaaDoorTie
import Derived.Test.YtblbhlgihlgncaaDoorCards
import Derived.Test.YtblbhlgihlgncaaDoorOpenA
import Derived.Test.YtblbhlgihlgncaaDoorOpenN
import Derived.Test.YtblbhlgihlgncaaDoorLKAsks
import Derived.LaidLaws
import Derived.LaidHandle
import Derived.SevenTiedAt
set_option linter.unusedVariables false
namespace Go.Proofs.YtblbhlgihlgncaaDoor.lookAsks
open Go.ChangeShapes Go.WideShapes Go.ChangeAt Go.RowKit
open Go.ChangeMaps (open_string)

theorem own : ownKnob Tryd.prog.godebug = none := by kernel_rfl
theorem laidOut : laidOutB Tryd.prog = true := by kernel_rfl
theorem rowed : typesRowed Tryd.prog Tryd.f4.params.toList = true := by kernel_rfl
theorem vrowed : varsRowed Tryd.prog Rows.lookAsksSpec.vars = true := by kernel_rfl
theorem et : Tryd.prog.globalNamed "errors.errorType" = some 0 := by kernel_rfl
theorem rt : (Tryd.prog.cutTypes.find? (·.1 == "internal/reflectlite.rtype")).map (·.2) = some 127 := by kernel_rfl
theorem oneRow : ((List.range 199).filter fun t => Tryd.prog.rowNamed t [101, 114, 114, 111, 114]) = [34] := by kernel_rfl
theorem size : Tryd.prog.types.size = 199 := by kernel_rfl

/-- What the row's condition gives the walk: the variable's one cell. -/
theorem handle_of_laid {W : World} (h : laidMetH Tryd.prog Rows.lookAsksRow.laid W) : LaidE W := by
  have h' : laidMet Tryd.prog [] W ∧ handlesMet Tryd.prog Rows.lookAsksRow.laid W := h
  obtain ⟨name, u, ty, e1, e2, e3, e4, e5⟩ := h'.2 _ (List.mem_singleton.2 rfl)
  have en : name = [101, 114, 114, 111, 114] := (Option.some.inj e1).symm
  subst en
  obtain rfl := Option.some.inj (rt.symm.trans e2)
  have hm : ty ∈ (List.range 199).filter fun t => Tryd.prog.rowNamed t [101, 114, 114, 111, 114] := List.mem_filter.2 ⟨List.mem_range.2 (by rw [← size]; exact e3), e4⟩
  rw [oneRow] at hm
  obtain rfl := List.mem_singleton.1 hm
  have hh : typeHandle Tryd.prog 34 = .pointer (some ⟨1, 34, none⟩) := by kernel_rfl
  rw [hh] at e5
  unfold LaidE
  simpa using World.var?_cell et e5 0

/-- A world that meets the condition: the settled one, the variable's cell laid. -/
noncomputable def laidWorld (os : Os) : World :=
  let w0 := World.holding Tryd.prog os ⟨#[], #[], []⟩
  { w0 with heap := w0.heap.modify 0 fun
      | .cells _ t frozen => .cells #[.iface 127 (.agg #[.pointer (some ⟨1, 34, none⟩)])] t frozen
      | o => o }
theorem laidWorld_met (os : Os) (args : Array Value) : laidMetH Tryd.prog Rows.lookAsksRow.laid ((laidWorld os).forCall (fun _ _ => 0) ⟨#[], args, []⟩).memory :=
  laidMetH_of_parts (laidMet_nil _ _) (by kernel_rfl)

theorem cells3 : Tryd.prog.cellsOf 3 = 1 := by kernel_rfl
theorem cells42 : Tryd.prog.cellsOf 42 = 3 := by kernel_rfl
theorem cells44 : Tryd.prog.cellsOf 44 = 4 := by kernel_rfl
theorem cells46 : Tryd.prog.cellsOf 46 = 7 := by kernel_rfl

set_option maxRecDepth 100000 in
theorem lifted (os : Os) (started : os.Started) (H : Type) (enc : TypeId × Value → H) :
    ReturnsInHanded {} Tryd.checked os 4 .any (fun w args => (Rows.lookAsksSpec.pre enc Tryd.prog Tryd.f4 [] false w args ∧ laidMetH Tryd.prog Rows.lookAsksRow.laid w) ∧ sizedMet enc Tryd.prog Tryd.f4 (OpenSpec.ofChange Rows.lookAsksSpec) false w args)
      (Rows.lookAsksSpec.post enc Tryd.prog Tryd.f4 false true false false) := by
  refine returnsInHanded_of_change_and (C := Tryd.checked) (X := fun w _ => laidMetH Tryd.prog Rows.lookAsksRow.laid w) (fun _ _ _ hh h => h.of_heap hh) own started (by kernel_rfl) Tryd.func4
    (ChangeSpec.witness_at (enc := enc) (C := Tryd.checked) (os := os) (X := fun w _ => laidMetH Tryd.prog Rows.lookAsksRow.laid w) false (laidWorld os) #[.agg #[.slice none 0 0, .slice none 0 0, .int .i64 0, .int .i64 0, .int .i64 0, .int .u64 0, .bool false], .slice none 0 0] 8 rfl (by kernel_rfl) (by kernel_rfl) (by kernel_rfl) (by kernel_rfl) (by kernel_rfl) (laidWorld_met os _)) ?_
  intro W base args ds gs before hval0 hW _ _ hL _
  have hval : ∀ (j : Nat) t v, Tryd.f4.params[j]? = some t → args[j]? = some v → Value.okWide Tryd.prog W .any base t v := hval0
  have hW' := hW
  obtain ⟨p, q, hA0, hV, rfl, hfz, hnd⟩ := hW
  have hA : DataW.TrodAll enc Tryd.prog W 0 (fun _ => true) true Tryd.f4.params.toList args.toList ds p := hA0
  rw [Tryd.params4] at hA hval
  have hg := handle_of_laid hL
  obtain ⟨v0, vs0, d0, ds0, p0, q0, hargs, rfl, rfl, h0, r0⟩ := trodAll_cons hA
  obtain ⟨v1, vs1, d1, ds1, p1, q1, rfl, rfl, rfl, h1, r1⟩ := trodAll_cons r0
  obtain ⟨rfl, rfl, rfl⟩ := trodAll_nil r1
  obtain rfl : args = #[v0, v1] := by cases args; simp_all
  obtain ⟨rfl, rfl⟩ := trodVars_none hV
  obtain ⟨c0_0, c0_1, c0_2, c0_3, c0_4, c0_5, c0_6, rfl, m0, y0a, y0b, g0a, g0b⟩ := open_nest _ _ Tryd.underlying46 rfl rfl rfl rfl cells42 cells44 cells46 (hval 0 46 v0 rfl rfl) h0
  obtain ⟨m0a, g0a⟩ := trod_flat Tryd.underlying42 (by kernel_rfl) rfl g0a
  obtain ⟨m0b, g0b⟩ := trod_flat Tryd.underlying44 (by kernel_rfl) rfl g0b
  obtain ⟨y0_0, g0_0⟩ := g0a 0 _ rfl
  obtain ⟨y0_1, g0_1⟩ := g0a 1 _ rfl
  obtain ⟨y0_2, g0_2⟩ := g0a 2 _ rfl
  obtain ⟨y0_3, g0_3⟩ := g0b 0 _ rfl
  obtain ⟨y0_4, g0_4⟩ := g0b 1 _ rfl
  obtain ⟨y0_5, g0_5⟩ := g0b 2 _ rfl
  obtain ⟨y0_6, g0_6⟩ := g0b 3 _ rfl
  clear g0a g0b
  obtain ⟨n0_0, l0_0, hr0_0, hw0_0⟩ := open_ints_raw Tryd.underlying40 Tryd.underlying3 cells3 g0_0
  have hb0_0 : ∀ z ∈ l0_0, -9223372036854775808 ≤ z ∧ z ≤ 9223372036854775807 := fun z hz => i64_bd (hw0_0 z hz)
  obtain ⟨n0_1, l0_1, hr0_1, hw0_1⟩ := open_ints_raw Tryd.underlying40 Tryd.underlying3 cells3 g0_1
  have hb0_1 : ∀ z ∈ l0_1, -9223372036854775808 ≤ z ∧ z ≤ 9223372036854775807 := fun z hz => i64_bd (hw0_1 z hz)
  obtain ⟨a0_2, e0_2, _, w0_2⟩ := DataW.trod_int Tryd.underlying3 g0_2
  have f0_2 : c0_2 = .int .i64 a0_2 := (List.cons.inj e0_2).1
  subst f0_2
  have b0_2 := i64_bd w0_2
  obtain ⟨a0_3, e0_3, _, w0_3⟩ := DataW.trod_int Tryd.underlying3 g0_3
  have f0_3 : c0_3 = .int .i64 a0_3 := (List.cons.inj e0_3).1
  subst f0_3
  have b0_3 := i64_bd w0_3
  obtain ⟨a0_4, e0_4, _, w0_4⟩ := DataW.trod_int Tryd.underlying3 g0_4
  have f0_4 : c0_4 = .int .i64 a0_4 := (List.cons.inj e0_4).1
  subst f0_4
  have b0_4 := i64_bd w0_4
  obtain ⟨a0_5, e0_5, _, w0_5⟩ := DataW.trod_int Tryd.underlying28 g0_5
  have f0_5 : c0_5 = .int .u64 a0_5 := (List.cons.inj e0_5).1
  subst f0_5
  have b0_5 := u64_bd w0_5
  obtain ⟨a0_6, e0_6, _⟩ := DataW.trod_bool Tryd.underlying4 g0_6
  have f0_6 : c0_6 = .bool a0_6 := (List.cons.inj e0_6).1
  subst f0_6
  obtain ⟨n1, l1, hr1, hw1⟩ := open_ints_row Tryd.underlying40 Tryd.underlying3 cells3 (hval 1 40 v1 rfl rfl) h1
  have hb1 : ∀ z ∈ l1, -9223372036854775808 ≤ z ∧ z ≤ 9223372036854775807 := fun z hz => i64_bd (hw1 z hz)
  have hlaw : Calls Tryd.prog 4 #[.agg #[c0_0, c0_1, .int .i64 a0_2, .int .i64 a0_3, .int .i64 a0_4, .int .u64 a0_5, .bool a0_6], v1] W fun e w' => e = .returned (.bool true) ∧ Below W.heap.size W w' := by
    rw [U_of a0_5 b0_5.1 b0_5.2]
    exact law_LookAsks c0_0 c0_1 n0_0 n0_1 l0_0 l0_1 a0_2 a0_3 a0_4 _ a0_6 v1 n1 l1 W hg hr0_0 hr0_1 hb0_0 hb0_1 b0_2 b0_3 hr1
  refine Calls.mono hlaw fun e W' ⟨he, hg⟩ => ?_
  subst he
  exact ⟨_, rfl, law_post laidOut rowed vrowed rfl Tryd.underlying4 hW' rfl rfl rfl hg⟩

theorem over : Rows.lookAsksRow.holds Tryd.pinned (OpenSpec.ofChange Rows.lookAsksSpec) :=
  OpenClaim.holds_of_wide 4 Tryd.f4 rfl rfl rfl rfl rfl rfl rfl ⟨rfl, rfl, rfl, rfl, rfl⟩ rfl rfl rfl rfl rfl (by kernel_rfl) Tryd.func4 (by kernel_rfl)
    (of_decide_eq_true (by kernel_rfl)) (by unfold Func.isWrapper; first | (rw [if_pos (by decide +kernel)]; kernel_rfl) | (rw [if_neg (by decide +kernel)]; exact ⟨rfl, rfl⟩))
    (fun os started H enc _ => lifted os started H enc)

theorem noStand : (Tryd.f4.params.toList.any fun t => Tryd.prog.wantsStandIn t) = false := by kernel_rfl

theorem proved : Rows.LookAsksCardSaid :=
  Claim7.holds_tied_plain_at .later [] [.handle] true (true, "ed96da5e2dd68ff8613befb98b3a4a56bbdf29b0e4701ecbb609d31b9d1e9803") true
    over (fun _ h => by cases h) (by kernel_rfl) (fun _ h => by cases h) lookAsks_row_tie rfl ⟨rfl, rfl⟩ (by kernel_rfl) rfl
    (fun f fn hf hfn => by
      obtain rfl : f = 4 := Option.some.inj ((show Tryd.prog.funcNamed "intaglio/intagliolaw09.LookAsks" = some 4 by kernel_rfl).symm.trans hf) |>.symm
      obtain rfl : fn = Tryd.f4 := (Option.some.inj (Tryd.func4.symm.trans hfn)).symm
      exact ⟨by kernel_rfl, fun j t ht => by
        have hn := noStand
        rw [List.any_eq_false] at hn
        have hm : t ∈ Tryd.f4.params.toList := by
          rw [Array.mem_toList_iff]; exact Array.mem_of_getElem? ht
        exact (Bool.not_eq_true _).mp (hn t hm)⟩)
    (by kernel_rfl)
#print axioms proved
end Go.Proofs.YtblbhlgihlgncaaDoor.lookAsks

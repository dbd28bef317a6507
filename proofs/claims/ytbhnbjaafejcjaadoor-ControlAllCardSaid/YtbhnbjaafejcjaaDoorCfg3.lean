/- What the program's plan answers of such a config, and of none. -/
import Derived.Test.YtbhnbjaafejcjaaDoorCfg2
set_option linter.unusedVariables false
namespace Go.Proofs.YtbhnbjaafejcjaaDoor
open Go.RowKit

def cfgZ : Value := .agg #[.int .i64 0, .int .i64 0, .int .i64 0, .int .i64 0, .int .i64 0, .int .i64 0, .int .i64 0, .int .i64 0, .int .i64 0]

set_option maxHeartbeats 4000000 in
theorem pparts_any (T : Int) (w : World) : Calls Tryd.prog 96 #[cfgV T] w fun r w' => r = .returned (.agg #[.int .i64 T, .int .i64 4, .int .i64 1, .int .i64 1, .int .i64 1, .int .i64 4, .int .i64 1, .int .i64 6, .int .i64 0]) ∧ Below w.heap.size w w' := by
  unfold cfgV
  go_enter Tryd.func96, Tryd.ntmps96
  go_wp2_with fail
  go_returns
  refine ⟨rfl, ?_⟩
  go_grown
set_option maxHeartbeats 4000000 in
theorem pparts_zero (w : World) : Calls Tryd.prog 96 #[cfgZ] w fun r w' => r = .returned (.agg #[.int .i64 0, .int .i64 0, .int .i64 0, .int .i64 0, .int .i64 0, .int .i64 0, .int .i64 0, .int .i64 0, .int .i64 0]) ∧ Below w.heap.size w w' := by
  unfold cfgZ
  go_enter Tryd.func96, Tryd.ntmps96
  go_wp2_with fail
  go_returns
  refine ⟨rfl, ?_⟩
  go_grown

set_option maxHeartbeats 4000000 in
theorem pcells_any (T : Int) (w : World) (h1 : 1 ≤ T) (h8 : T ≤ 8) : Calls Tryd.prog 86 #[cfgV T] w fun r w' => r = .returned (.tuple #[.int .i64 (6 + T), .int .i64 9]) ∧ Below w.heap.size w w' := by
  unfold cfgV
  go_enter Tryd.func86, Tryd.ntmps86
  go_wp2_with fail
  go_quiet (fail)
  go_wp2_with fail
  go_returns
  exact ⟨rfl, ((Below.refl _ w).alloc (Nat.le_refl _) _).trans (below_drewN _ _ _)⟩

@[go_sem] theorem idx9_0 (x0 x1 x2 x3 x4 x5 x6 x7 x8 : Value) (w : World) : Sem.run Tryd.prog (Instr.index 153 (.agg #[x0, x1, x2, x3, x4, x5, x6, x7, x8]) (.int .i64 0)) w = .ok x0 w := by simp [Instr.index, run_underlying Tryd.underlying153, asIntOf, go_sem]
@[go_sem] theorem idx9_1 (x0 x1 x2 x3 x4 x5 x6 x7 x8 : Value) (w : World) : Sem.run Tryd.prog (Instr.index 153 (.agg #[x0, x1, x2, x3, x4, x5, x6, x7, x8]) (.int .i64 1)) w = .ok x1 w := by simp [Instr.index, run_underlying Tryd.underlying153, asIntOf, go_sem]
@[go_sem] theorem idx9_2 (x0 x1 x2 x3 x4 x5 x6 x7 x8 : Value) (w : World) : Sem.run Tryd.prog (Instr.index 153 (.agg #[x0, x1, x2, x3, x4, x5, x6, x7, x8]) (.int .i64 2)) w = .ok x2 w := by simp [Instr.index, run_underlying Tryd.underlying153, asIntOf, go_sem]
@[go_sem] theorem idx9_3 (x0 x1 x2 x3 x4 x5 x6 x7 x8 : Value) (w : World) : Sem.run Tryd.prog (Instr.index 153 (.agg #[x0, x1, x2, x3, x4, x5, x6, x7, x8]) (.int .i64 3)) w = .ok x3 w := by simp [Instr.index, run_underlying Tryd.underlying153, asIntOf, go_sem]
@[go_sem] theorem idx9_4 (x0 x1 x2 x3 x4 x5 x6 x7 x8 : Value) (w : World) : Sem.run Tryd.prog (Instr.index 153 (.agg #[x0, x1, x2, x3, x4, x5, x6, x7, x8]) (.int .i64 4)) w = .ok x4 w := by simp [Instr.index, run_underlying Tryd.underlying153, asIntOf, go_sem]
@[go_sem] theorem idx9_5 (x0 x1 x2 x3 x4 x5 x6 x7 x8 : Value) (w : World) : Sem.run Tryd.prog (Instr.index 153 (.agg #[x0, x1, x2, x3, x4, x5, x6, x7, x8]) (.int .i64 5)) w = .ok x5 w := by simp [Instr.index, run_underlying Tryd.underlying153, asIntOf, go_sem]
@[go_sem] theorem idx9_6 (x0 x1 x2 x3 x4 x5 x6 x7 x8 : Value) (w : World) : Sem.run Tryd.prog (Instr.index 153 (.agg #[x0, x1, x2, x3, x4, x5, x6, x7, x8]) (.int .i64 6)) w = .ok x6 w := by simp [Instr.index, run_underlying Tryd.underlying153, asIntOf, go_sem]
@[go_sem] theorem idx9_7 (x0 x1 x2 x3 x4 x5 x6 x7 x8 : Value) (w : World) : Sem.run Tryd.prog (Instr.index 153 (.agg #[x0, x1, x2, x3, x4, x5, x6, x7, x8]) (.int .i64 7)) w = .ok x7 w := by simp [Instr.index, run_underlying Tryd.underlying153, asIntOf, go_sem]
@[go_sem] theorem idx9_8 (x0 x1 x2 x3 x4 x5 x6 x7 x8 : Value) (w : World) : Sem.run Tryd.prog (Instr.index 153 (.agg #[x0, x1, x2, x3, x4, x5, x6, x7, x8]) (.int .i64 8)) w = .ok x8 w := by simp [Instr.index, run_underlying Tryd.underlying153, asIntOf, go_sem]
@[go_sem] theorem idx2_0 (x0 x1 x2 x3 : Value) (w : World) : Sem.run Tryd.prog (Instr.index 64 (.agg #[x0, x1, x2, x3]) (.int .i64 0)) w = .ok (.agg #[x0, x1]) w := by simp [Instr.index, run_underlying Tryd.underlying64, asIntOf, go_sem]
@[go_sem] theorem idx2_1 (x0 x1 x2 x3 : Value) (w : World) : Sem.run Tryd.prog (Instr.index 64 (.agg #[x0, x1, x2, x3]) (.int .i64 1)) w = .ok (.agg #[x2, x3]) w := by simp [Instr.index, run_underlying Tryd.underlying64, asIntOf, go_sem]

theorem size_al (w : World) (o : Obj) : (w.alloc o).heap.size = w.heap.size + 1 := by simp
/-- A box of its own, cell by cell. -/
structure Bx (w : World) (B : Nat) (cs : Array Value) : Prop where
  lt : B < w.heap.size
  at_ : ∀ (j : Nat), w.cell? ⟨B, j, none⟩ = cs[j]?
theorem Bx.below {w w' : World} {B : Nat} {cs : Array Value} (h : Bx w B cs) (hb : Below w.heap.size w w') : Bx w' B cs := ⟨Nat.lt_of_lt_of_le h.lt hb.size, fun j => (hb.cell h.lt).trans (h.at_ j)⟩
theorem Bx.mk' (w : World) (cs : Array Value) (T : TypeId) (B : Nat) (hB : w.heap.size = B) : Bx (w.alloc (.cells cs T)) B cs := by
  subst hB
  obtain ⟨w1, h1, h2, h3, h4⟩ := boxed w cs T
  rw [h1]; exact ⟨h3, h4⟩
theorem Bx.make (w : World) (cs : Array Value) (T : TypeId) : ∃ w1, w.alloc (.cells cs T) = w1 ∧ Below w.heap.size w w1 ∧ Bx w1 w.heap.size cs := by
  obtain ⟨w1, h1, h2, h3, h4⟩ := boxed w cs T
  exact ⟨w1, h1, h2, h3, h4⟩

set_option maxRecDepth 100000 in
set_option maxHeartbeats 8000000 in
theorem pright_zero (w : World) : Calls Tryd.prog 85 #[cfgZ] w fun r w' => r = .returned (.bool false) ∧ Below w.heap.size w w' := by
  have hP := fun W => pparts_zero W
  unfold cfgZ at hP ⊢
  have x1 := Bx.mk' w #[.int .i64 0, .int .i64 0, .int .i64 0, .int .i64 0, .int .i64 0, .int .i64 0, .int .i64 0, .int .i64 0, .int .i64 0] 66 w.heap.size rfl
  have x2 := Bx.mk' (w.alloc (.cells #[.int .i64 0, .int .i64 0, .int .i64 0, .int .i64 0, .int .i64 0, .int .i64 0, .int .i64 0, .int .i64 0, .int .i64 0] 66)) #[.int .i64 1, .int .i64 4, .int .i64 1, .int .i64 1, .int .i64 1, .int .i64 4, .int .i64 0, .int .i64 4, .int .i64 0] 153 (w.heap.size + 1) (size_al _ _)
  have x3 := Bx.mk' ((w.alloc (.cells #[.int .i64 0, .int .i64 0, .int .i64 0, .int .i64 0, .int .i64 0, .int .i64 0, .int .i64 0, .int .i64 0, .int .i64 0] 66)).alloc (.cells #[.int .i64 1, .int .i64 4, .int .i64 1, .int .i64 1, .int .i64 1, .int .i64 4, .int .i64 0, .int .i64 4, .int .i64 0] 153)) #[.int .i64 8, .int .i64 32, .int .i64 8, .int .i64 8, .int .i64 8, .int .i64 96, .int .i64 12, .int .i64 96, .int .i64 12] 153 (w.heap.size + 1 + 1) ((size_al _ _).trans (by rw [size_al]))
  have hb1 := (Below.refl w.heap.size w).alloc (Nat.le_refl _) (.cells #[.int .i64 0, .int .i64 0, .int .i64 0, .int .i64 0, .int .i64 0, .int .i64 0, .int .i64 0, .int .i64 0, .int .i64 0] 66)
  have hb2 := (Below.refl (w.alloc (.cells #[.int .i64 0, .int .i64 0, .int .i64 0, .int .i64 0, .int .i64 0, .int .i64 0, .int .i64 0, .int .i64 0, .int .i64 0] 66)).heap.size (w.alloc (.cells #[.int .i64 0, .int .i64 0, .int .i64 0, .int .i64 0, .int .i64 0, .int .i64 0, .int .i64 0, .int .i64 0, .int .i64 0] 66))).alloc (Nat.le_refl _) (.cells #[.int .i64 1, .int .i64 4, .int .i64 1, .int .i64 1, .int .i64 1, .int .i64 4, .int .i64 0, .int .i64 4, .int .i64 0] 153)
  have hb3 := (Below.refl ((w.alloc (.cells #[.int .i64 0, .int .i64 0, .int .i64 0, .int .i64 0, .int .i64 0, .int .i64 0, .int .i64 0, .int .i64 0, .int .i64 0] 66)).alloc (.cells #[.int .i64 1, .int .i64 4, .int .i64 1, .int .i64 1, .int .i64 1, .int .i64 4, .int .i64 0, .int .i64 4, .int .i64 0] 153)).heap.size ((w.alloc (.cells #[.int .i64 0, .int .i64 0, .int .i64 0, .int .i64 0, .int .i64 0, .int .i64 0, .int .i64 0, .int .i64 0, .int .i64 0] 66)).alloc (.cells #[.int .i64 1, .int .i64 4, .int .i64 1, .int .i64 1, .int .i64 1, .int .i64 4, .int .i64 0, .int .i64 4, .int .i64 0] 153))).alloc (Nat.le_refl _) (.cells #[.int .i64 8, .int .i64 32, .int .i64 8, .int .i64 8, .int .i64 8, .int .i64 96, .int .i64 12, .int .i64 96, .int .i64 12] 153)
  have hb := via (via hb1 hb2) hb3
  replace x1 := (x1.below hb2).below hb3
  replace x2 := x2.below hb3
  have X := hid (And.intro hb (And.intro x1 (And.intro x2 x3)))
  clear hb x1 x2 x3 hb1 hb2 hb3
  go_enter Tryd.func85, Tryd.ntmps85
  go_wp2_with fail
  ((refine (hP _).mono ?_); rintro r1 w4 ⟨rfl, h4⟩)
  obtain ⟨hb, x1, x2, x3⟩ := X.out
  replace hb := via hb h4
  replace x1 := x1.below h4
  replace x2 := x2.below h4
  replace x3 := x3.below h4
  clear X hP h4
  generalize w.heap.size + 1 + 1 = B2 at *
  generalize w.heap.size + 1 = B1 at *
  have l0 : w4.cell? ⟨B1, 0, none⟩ = some (.int .i64 1) := x2.at_ 0
  have m0 : w4.cell? ⟨B2, 0, none⟩ = some (.int .i64 8) := x3.at_ 0
  have l1 : w4.cell? ⟨B1, 1, none⟩ = some (.int .i64 4) := x2.at_ 1
  have m1 : w4.cell? ⟨B2, 1, none⟩ = some (.int .i64 32) := x3.at_ 1
  have l2 : w4.cell? ⟨B1, 2, none⟩ = some (.int .i64 1) := x2.at_ 2
  have m2 : w4.cell? ⟨B2, 2, none⟩ = some (.int .i64 8) := x3.at_ 2
  have l3 : w4.cell? ⟨B1, 3, none⟩ = some (.int .i64 1) := x2.at_ 3
  have m3 : w4.cell? ⟨B2, 3, none⟩ = some (.int .i64 8) := x3.at_ 3
  have l4 : w4.cell? ⟨B1, 4, none⟩ = some (.int .i64 1) := x2.at_ 4
  have m4 : w4.cell? ⟨B2, 4, none⟩ = some (.int .i64 8) := x3.at_ 4
  have l5 : w4.cell? ⟨B1, 5, none⟩ = some (.int .i64 4) := x2.at_ 5
  have m5 : w4.cell? ⟨B2, 5, none⟩ = some (.int .i64 96) := x3.at_ 5
  have l6 : w4.cell? ⟨B1, 6, none⟩ = some (.int .i64 0) := x2.at_ 6
  have m6 : w4.cell? ⟨B2, 6, none⟩ = some (.int .i64 12) := x3.at_ 6
  have l7 : w4.cell? ⟨B1, 7, none⟩ = some (.int .i64 4) := x2.at_ 7
  have m7 : w4.cell? ⟨B2, 7, none⟩ = some (.int .i64 96) := x3.at_ 7
  have l8 : w4.cell? ⟨B1, 8, none⟩ = some (.int .i64 0) := x2.at_ 8
  have m8 : w4.cell? ⟨B2, 8, none⟩ = some (.int .i64 12) := x3.at_ 8
  have c4 : w4.cell? ⟨w.heap.size, 4, none⟩ = some (.int .i64 0) := x1.at_ 4
  have c6 : w4.cell? ⟨w.heap.size, 6, none⟩ = some (.int .i64 0) := x1.at_ 6
  clear x1 x2 x3
  go_wp2_with fail
  refine wp_loop_rounds 1 ?_
  rw [rounds_succ]
  go_wp2_with fail
  go_ret
  exact ⟨rfl, hb⟩

set_option maxRecDepth 100000 in
set_option maxHeartbeats 8000000 in
theorem pright_any (T : Int) (w : World) (h1 : 1 ≤ T) (h8 : T ≤ 8) : Calls Tryd.prog 85 #[cfgV T] w fun r w' => r = .returned (.bool true) ∧ Below w.heap.size w w' := by
  have hP := fun W => pparts_any T W
  unfold cfgV at hP ⊢
  have e1 : decide (T < 1) = false := decide_eq_false (by omega)
  have e2 : decide (8 < T) = false := decide_eq_false (by omega)
  have x1 := Bx.mk' w #[.int .i64 T, .int .i64 4, .int .i64 1, .int .i64 1, .int .i64 4, .int .i64 1, .int .i64 6, .int .i64 0, .int .i64 1] 66 w.heap.size rfl
  have x2 := Bx.mk' (w.alloc (.cells #[.int .i64 T, .int .i64 4, .int .i64 1, .int .i64 1, .int .i64 4, .int .i64 1, .int .i64 6, .int .i64 0, .int .i64 1] 66)) #[.int .i64 1, .int .i64 4, .int .i64 1, .int .i64 1, .int .i64 1, .int .i64 4, .int .i64 0, .int .i64 4, .int .i64 0] 153 (w.heap.size + 1) (size_al _ _)
  have x3 := Bx.mk' ((w.alloc (.cells #[.int .i64 T, .int .i64 4, .int .i64 1, .int .i64 1, .int .i64 4, .int .i64 1, .int .i64 6, .int .i64 0, .int .i64 1] 66)).alloc (.cells #[.int .i64 1, .int .i64 4, .int .i64 1, .int .i64 1, .int .i64 1, .int .i64 4, .int .i64 0, .int .i64 4, .int .i64 0] 153)) #[.int .i64 8, .int .i64 32, .int .i64 8, .int .i64 8, .int .i64 8, .int .i64 96, .int .i64 12, .int .i64 96, .int .i64 12] 153 (w.heap.size + 1 + 1) ((size_al _ _).trans (by rw [size_al]))
  have hb1 := (Below.refl w.heap.size w).alloc (Nat.le_refl _) (.cells #[.int .i64 T, .int .i64 4, .int .i64 1, .int .i64 1, .int .i64 4, .int .i64 1, .int .i64 6, .int .i64 0, .int .i64 1] 66)
  have hb2 := (Below.refl (w.alloc (.cells #[.int .i64 T, .int .i64 4, .int .i64 1, .int .i64 1, .int .i64 4, .int .i64 1, .int .i64 6, .int .i64 0, .int .i64 1] 66)).heap.size (w.alloc (.cells #[.int .i64 T, .int .i64 4, .int .i64 1, .int .i64 1, .int .i64 4, .int .i64 1, .int .i64 6, .int .i64 0, .int .i64 1] 66))).alloc (Nat.le_refl _) (.cells #[.int .i64 1, .int .i64 4, .int .i64 1, .int .i64 1, .int .i64 1, .int .i64 4, .int .i64 0, .int .i64 4, .int .i64 0] 153)
  have hb3 := (Below.refl ((w.alloc (.cells #[.int .i64 T, .int .i64 4, .int .i64 1, .int .i64 1, .int .i64 4, .int .i64 1, .int .i64 6, .int .i64 0, .int .i64 1] 66)).alloc (.cells #[.int .i64 1, .int .i64 4, .int .i64 1, .int .i64 1, .int .i64 1, .int .i64 4, .int .i64 0, .int .i64 4, .int .i64 0] 153)).heap.size ((w.alloc (.cells #[.int .i64 T, .int .i64 4, .int .i64 1, .int .i64 1, .int .i64 4, .int .i64 1, .int .i64 6, .int .i64 0, .int .i64 1] 66)).alloc (.cells #[.int .i64 1, .int .i64 4, .int .i64 1, .int .i64 1, .int .i64 1, .int .i64 4, .int .i64 0, .int .i64 4, .int .i64 0] 153))).alloc (Nat.le_refl _) (.cells #[.int .i64 8, .int .i64 32, .int .i64 8, .int .i64 8, .int .i64 8, .int .i64 96, .int .i64 12, .int .i64 96, .int .i64 12] 153)
  have hb := via (via hb1 hb2) hb3
  replace x1 := (x1.below hb2).below hb3
  replace x2 := x2.below hb3
  have X := hid (And.intro hb (And.intro x1 (And.intro x2 x3)))
  clear hb x1 x2 x3 hb1 hb2 hb3
  go_enter Tryd.func85, Tryd.ntmps85
  go_wp2_with fail
  ((refine (hP _).mono ?_); rintro r1 w4 ⟨rfl, h4⟩)
  obtain ⟨hb, x1, x2, x3⟩ := X.out
  replace hb := via hb h4
  replace x1 := x1.below h4
  replace x2 := x2.below h4
  replace x3 := x3.below h4
  clear X hP h4
  generalize w.heap.size + 1 + 1 = B2 at *
  generalize w.heap.size + 1 = B1 at *
  have l0 : w4.cell? ⟨B1, 0, none⟩ = some (.int .i64 1) := x2.at_ 0
  have m0 : w4.cell? ⟨B2, 0, none⟩ = some (.int .i64 8) := x3.at_ 0
  have l1 : w4.cell? ⟨B1, 1, none⟩ = some (.int .i64 4) := x2.at_ 1
  have m1 : w4.cell? ⟨B2, 1, none⟩ = some (.int .i64 32) := x3.at_ 1
  have l2 : w4.cell? ⟨B1, 2, none⟩ = some (.int .i64 1) := x2.at_ 2
  have m2 : w4.cell? ⟨B2, 2, none⟩ = some (.int .i64 8) := x3.at_ 2
  have l3 : w4.cell? ⟨B1, 3, none⟩ = some (.int .i64 1) := x2.at_ 3
  have m3 : w4.cell? ⟨B2, 3, none⟩ = some (.int .i64 8) := x3.at_ 3
  have l4 : w4.cell? ⟨B1, 4, none⟩ = some (.int .i64 1) := x2.at_ 4
  have m4 : w4.cell? ⟨B2, 4, none⟩ = some (.int .i64 8) := x3.at_ 4
  have l5 : w4.cell? ⟨B1, 5, none⟩ = some (.int .i64 4) := x2.at_ 5
  have m5 : w4.cell? ⟨B2, 5, none⟩ = some (.int .i64 96) := x3.at_ 5
  have l6 : w4.cell? ⟨B1, 6, none⟩ = some (.int .i64 0) := x2.at_ 6
  have m6 : w4.cell? ⟨B2, 6, none⟩ = some (.int .i64 12) := x3.at_ 6
  have l7 : w4.cell? ⟨B1, 7, none⟩ = some (.int .i64 4) := x2.at_ 7
  have m7 : w4.cell? ⟨B2, 7, none⟩ = some (.int .i64 96) := x3.at_ 7
  have l8 : w4.cell? ⟨B1, 8, none⟩ = some (.int .i64 0) := x2.at_ 8
  have m8 : w4.cell? ⟨B2, 8, none⟩ = some (.int .i64 12) := x3.at_ 8
  have c4 : w4.cell? ⟨w.heap.size, 4, none⟩ = some (.int .i64 4) := x1.at_ 4
  have c6 : w4.cell? ⟨w.heap.size, 6, none⟩ = some (.int .i64 6) := x1.at_ 6
  clear x1 x2 x3
  go_wp2_with fail
  refine wp_loop_rounds 10 ?_
  rw [rounds_succ]
  go_wp2_with fail
  rw [rounds_succ]
  go_wp2_with fail
  rw [rounds_succ]
  go_wp2_with fail
  rw [rounds_succ]
  go_wp2_with fail
  rw [rounds_succ]
  go_wp2_with fail
  rw [rounds_succ]
  go_wp2_with fail
  rw [rounds_succ]
  go_wp2_with fail
  rw [rounds_succ]
  go_wp2_with fail
  rw [rounds_succ]
  go_wp2_with fail
  rw [rounds_succ]
  go_wp2_with fail
  go_ret
  exact ⟨rfl, hb⟩
end Go.Proofs.YtbhnbjaafejcjaaDoor


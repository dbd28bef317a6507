/- A config of the law's own: what the document's functions answer of it. -/
import Derived.Test.YtbhnbjaafejcjaaDoorRefCtl2
import Derived.Handy
import Derived.LoopN
set_option linter.unusedVariables false
namespace Go.Proofs.YtbhnbjaafejcjaaDoor
open Go.RowKit

def cfgV (T : Int) : Value := .agg #[.int .i64 T, .int .i64 4, .int .i64 1, .int .i64 1, .int .i64 4, .int .i64 1, .int .i64 6, .int .i64 0, .int .i64 1]

set_option maxHeartbeats 4000000 in
theorem of_any (b : Nat) (T : Int) (w : World) (c0 : w.cell? ⟨b, 0, none⟩ = some (.int .i64 T)) (c1 : w.cell? ⟨b, 1, none⟩ = some (.int .i64 4)) (c2 : w.cell? ⟨b, 2, none⟩ = some (.int .i64 1)) (c3 : w.cell? ⟨b, 3, none⟩ = some (.int .i64 1))
    (c4 : w.cell? ⟨b, 4, none⟩ = some (.int .i64 1)) (c5 : w.cell? ⟨b, 5, none⟩ = some (.int .i64 4)) (c6 : w.cell? ⟨b, 6, none⟩ = some (.int .i64 1)) (c7 : w.cell? ⟨b, 7, none⟩ = some (.int .i64 6)) (c8 : w.cell? ⟨b, 8, none⟩ = some (.int .i64 0)) (hb : b < w.heap.size) :
    Calls Tryd.prog 32 #[.slice (some ⟨b, 0, none⟩) 9 9] w fun r w' => r = .returned (cfgV T) ∧ Below w.heap.size w w' := by
  go_enter Tryd.func32, Tryd.ntmps32
  go_wp2_with fail
  go_region
  go_wp2_with fail
  go_region
  go_wp2_with fail
  go_region
  go_wp2_with fail
  go_returns
  refine ⟨rfl, ?_⟩
  go_grown

theorem rin_yes (n a b : Int) (w : World) (h1 : a ≤ n) (h2 : n ≤ b) : Calls Tryd.prog 89 #[.int .i64 n, .int .i64 a, .int .i64 b] w fun r w' => r = .returned (.bool true) ∧ w' = w := by
  have e1 : decide (a ≤ n) = true := decide_eq_true h1
  have e2 : decide (n ≤ b) = true := decide_eq_true h2
  go_enter Tryd.func89, Tryd.ntmps89
  go_wp2_with fail
  go_ret
  exact ⟨by simp [e2], rfl⟩

set_option maxHeartbeats 4000000 in
theorem rright_any (T : Int) (w : World) (h1 : 1 ≤ T) (h8 : T ≤ 8) : Calls Tryd.prog 71 #[cfgV T] w fun r w' => r = .returned (.bool true) ∧ Below w.heap.size w w' := by
  unfold cfgV
  go_enter Tryd.func71, Tryd.ntmps71
  go_wp2_with (go_at_call 89; refine (rin_yes _ _ _ _ (by omega) (by omega)).mono ?_; rintro r1 w1 ⟨rfl, rfl⟩)
  go_ret
  refine ⟨rfl, ?_⟩
  go_grown

set_option maxHeartbeats 4000000 in
theorem rblocks_any (T : Int) (w : World) : Calls Tryd.prog 65 #[cfgV T] w fun r w' => r = .returned (.int .i64 1) ∧ Below w.heap.size w w' := by
  unfold cfgV
  go_enter Tryd.func65, Tryd.ntmps65
  go_wp2_with fail
  go_ret
  refine ⟨rfl, ?_⟩
  go_grown

set_option maxHeartbeats 4000000 in
theorem rcontrol_any (T i : Int) (w : World) (h1 : 1 ≤ T) (h8 : T ≤ 8) (hi : 0 ≤ i) (hiT : i < T) : Calls Tryd.prog 34 #[cfgV T, .int .i64 i] w fun r w' => r = .returned (.int .i64 (6 + T + i * 9)) ∧ Below w.heap.size w w' := by
  have e1 : decide (i < 0) = false := decide_eq_false (by omega)
  have e2 : decide (T ≤ i) = false := decide_eq_false (by omega)
  unfold cfgV
  go_enter Tryd.func34, Tryd.ntmps34
  go_wp2_with fail
  go_ret
  refine ⟨rfl, ?_⟩
  go_grown

set_option maxHeartbeats 4000000 in
theorem rsize_any (T : Int) (w : World) (h1 : 1 ≤ T) (h8 : T ≤ 8) : Calls Tryd.prog 63 #[cfgV T] w fun r w' => r = .returned (.int .i64 (11 + 10 * T)) ∧ Below w.heap.size w w' := by
  unfold cfgV
  go_enter Tryd.func63, Tryd.ntmps63
  go_wp2_with fail
  refine wp_loop_rounds 3 ?_
  rw [rounds_succ]
  go_wp2_with fail
  go_quiet (fail)
  go_wp2_with fail
  rw [rounds_succ]
  go_wp2_with fail
  go_quiet (fail)
  go_wp2_with fail
  rw [rounds_succ]
  go_wp2_with fail
  go_ret
  refine ⟨?_, ((Below.refl _ w).alloc (Nat.le_refl _) _).trans (below_drewN _ _ _)⟩
  show Ending.returned (.int .i64 (6 + T + T * 9 + 5)) = _
  rw [show 6 + T + T * 9 + 5 = 11 + 10 * T by omega]
end Go.Proofs.YtbhnbjaafejcjaaDoor


/- What the program's plan answers of such a config: its size, and where a topic's word lies. -/
import Derived.Test.YtbhnbjaafejcjaaDoorCfg3
set_option linter.unusedVariables false
namespace Go.Proofs.YtbhnbjaafejcjaaDoor
open Go.RowKit

set_option maxHeartbeats 4000000 in
theorem pcheck_any (T : Int) (w : World) (h1 : 1 ≤ T) (h8 : T ≤ 8) : Calls Tryd.prog 68 #[cfgV T] w fun r w' => r = .returned .nilIface ∧ Below w.heap.size w w' := by
  have hR := fun W => pright_any T W h1 h8
  have hb := (Below.refl w.heap.size w).alloc (Nat.le_refl _) (.cells #[.int .i64 T, .int .i64 4, .int .i64 1, .int .i64 1, .int .i64 4, .int .i64 1, .int .i64 6, .int .i64 0, .int .i64 1] 66)
  unfold cfgV at hR ⊢
  go_enter Tryd.func68, Tryd.ntmps68
  go_wp2_with fail
  ((refine (hR _).mono ?_); rintro r1 w1 ⟨rfl, h1⟩)
  go_wp2_with fail
  go_ret
  exact ⟨rfl, via hb h1⟩

set_option maxHeartbeats 4000000 in
theorem pcheck_zero (w : World) : Calls Tryd.prog 68 #[cfgZ] w fun r w' => r = .returned (ErrV 1) ∧ Below w.heap.size w w' := by
  have hR := fun W => pright_zero W
  have hb := (Below.refl w.heap.size w).alloc (Nat.le_refl _) (.cells #[.int .i64 0, .int .i64 0, .int .i64 0, .int .i64 0, .int .i64 0, .int .i64 0, .int .i64 0, .int .i64 0, .int .i64 0] 66)
  unfold cfgZ at hR ⊢
  go_enter Tryd.func68, Tryd.ntmps68
  go_wp2_with fail
  ((refine (hR _).mono ?_); rintro r1 w1 ⟨rfl, h1⟩)
  go_wp2_with fail
  ((refine (new_any 1 (by decide) _).mono ?_); rintro r2 w2 ⟨rfl, rfl⟩)
  go_wp2_with fail
  go_ret
  exact ⟨rfl, via hb h1⟩

set_option maxRecDepth 100000 in
set_option maxHeartbeats 4000000 in
theorem psize_any (T : Int) (w : World) (h1 : 1 ≤ T) (h8 : T ≤ 8) : Calls Tryd.prog 69 #[cfgV T] w fun r w' => r = .returned (.int .i64 (11 + 10 * T)) ∧ Below w.heap.size w w' := by
  have hR := fun W => pright_any T W h1 h8
  have hC := fun W => pcells_any T W h1 h8
  unfold cfgV at hR hC ⊢
  obtain ⟨w1, hw1, hb1, hbox⟩ := CBox.make w T
  have ⟨lt0, k0, k1, k2, k3, k4, k5, k6, k7, k8⟩ := hbox
  go_enter Tryd.func69, Tryd.ntmps69
  go_wp2_with fail
  clear k0 k1 k2 k3 k4 k5 k6 k7 k8 hw1
  ((refine (hR _).mono ?_); rintro r1 w2 ⟨rfl, h2⟩)
  replace hbox := hbox.below h2
  replace hb1 := hb1.trans (h2.mono hb1.size)
  clear h2 hR
  have ⟨_, k0, k1, k2, k3, k4, k5, k6, k7, k8⟩ := hbox
  go_wp2_with fail
  clear k0 k1 k2 k3 k4 k5 k6 k7 k8
  ((refine (hC _).mono ?_); rintro r1 w3 ⟨rfl, h2⟩)
  replace hbox := hbox.below h2
  replace hb1 := hb1.trans (h2.mono hb1.size)
  clear h2 hC
  have ⟨_, k0, k1, k2, k3, k4, k5, k6, k7, k8⟩ := hbox
  go_wp2_with fail
  refine wp_loop_rounds 3 ?_
  rw [rounds_succ]
  go_wp2_with fail
  rw [rounds_succ]
  go_wp2_with fail
  rw [rounds_succ]
  go_wp2_with fail
  go_ret
  refine ⟨?_, ?_⟩
  · show Ending.returned (.int .i64 (6 + T + T * 9 + 5)) = _
    rw [show 6 + T + T * 9 + 5 = 11 + 10 * T by omega]
  · exact hb1.trans ((Below.refl _ w3).alloc (Nat.le_trans hb1.size (Nat.le_refl _)) _ |>.alloc (by have := hb1.size; simp; omega) _)

set_option maxRecDepth 100000 in
set_option maxHeartbeats 4000000 in
theorem place_any (T i : Int) (p q : Nat) (v : Value) (w : World) (h1 : 1 ≤ T) (h8 : T ≤ 8) (hi : 0 ≤ i) (hiT : i < T)
    (hF : ∀ W, Below w.heap.size w W → Calls Tryd.prog 88 #[.pointer (some ⟨p, 0, none⟩), .pointer (some ⟨q, 0, none⟩)] W fun r W' => r = .returned v ∧ Below W.heap.size W W') :
    Calls Tryd.prog 87 #[cfgV T, .int .i64 i, .int .i64 T, .func (.func 88) #[] #[.pointer (some ⟨p, 0, none⟩), .pointer (some ⟨q, 0, none⟩)]] w fun r w' => r = .returned v ∧ Below w.heap.size w w' := by
  have hR := fun W => pright_any T W h1 h8
  have i1 : (i < 0) ↔ False := iff_false_intro (by omega)
  have i2 : (i ≥ T) ↔ False := iff_false_intro (by omega)
  have i3 : (T ≤ i) ↔ False := iff_false_intro (by omega)
  unfold cfgV at hR ⊢
  go_enter Tryd.func87, Tryd.ntmps87
  go_wp2_with fail
  ((refine (hR _).mono ?_); rintro r1 w2 ⟨rfl, h2⟩)
  have hb2 := via ((Below.refl w.heap.size w).alloc (Nat.le_refl _) _) h2
  clear h2 hR
  go_wp2_with fail
  go_wp2_with fail
  ((refine (hF _ hb2).mono ?_); rintro r3 w3 ⟨rfl, h3⟩)
  go_wp2_with fail
  go_ret
  exact ⟨rfl, via hb2 h3⟩

set_option maxRecDepth 100000 in
set_option maxHeartbeats 4000000 in
theorem pcontrol_any (T i : Int) (w : World) (h1 : 1 ≤ T) (h8 : T ≤ 8) (hi : 0 ≤ i) (hiT : i < T) : Calls Tryd.prog 70 #[cfgV T, .int .i64 i] w fun r w' => r = .returned (.int .i64 (6 + T + i * 9)) ∧ Below w.heap.size w w' := by
  have hC : ∀ W, Below (w.heap.size + 2) ((w.alloc (.cells #[.int .i64 T, .int .i64 4, .int .i64 1, .int .i64 1, .int .i64 4, .int .i64 1, .int .i64 6, .int .i64 0, .int .i64 1] 66)).alloc (.cells #[.int .i64 i] 3)) W → Calls Tryd.prog 88 #[.pointer (some ⟨w.heap.size, 0, none⟩), .pointer (some ⟨w.heap.size + 1, 0, none⟩)] W fun r W' => r = .returned (.int .i64 (6 + T + i * 9)) ∧ Below W.heap.size W W' := by
    intro W hW
    have hC := fun W => pcells_any T W h1 h8
    have hbox : CBox W w.heap.size T := by
      obtain ⟨w1, e1, b1, x1⟩ := CBox.make w T
      rw [e1] at hW
      have x2 := x1.below (Below.alloc (Below.refl w1.heap.size w1) (Nat.le_refl _) (.cells #[.int .i64 i] 3))
      have hs : w1.heap.size = w.heap.size + 1 := by rw [← e1]; simp
      exact x2.below (hW.mono (by simp [hs]))
    have ki : W.cell? ⟨w.heap.size + 1, 0, none⟩ = some (.int .i64 i) := by
      rw [hW.cell (show w.heap.size + 1 < w.heap.size + 2 by omega)]
      simp
    have lt1 : w.heap.size + 1 < W.heap.size := by have := hW.size; simp at this; omega
    clear hW
    have ⟨lt0, k0, k1, k2, k3, k4, k5, k6, k7, k8⟩ := hbox
    unfold cfgV at hC
    go_enter Tryd.func88, Tryd.ntmps88
    go_wp2_with fail
    ((refine (hC _).mono ?_); rintro r1 w2 ⟨rfl, h2⟩)
    have ki2 := (h2.cell lt1).trans ki
    clear k0 k1 k2 k3 k4 k5 k6 k7 k8
    go_wp2_with fail
    go_ret
    exact ⟨rfl, h2⟩
  have hP := fun W H => place_any T i w.heap.size (w.heap.size + 1) (.int .i64 (6 + T + i * 9)) W h1 h8 hi hiT H
  unfold cfgV at hP ⊢
  go_enter Tryd.func70, Tryd.ntmps70
  go_wp2_with fail
  ((refine (hP _ (fun W hW => hC W (by simpa using hW))).mono ?_); rintro r3 w3 ⟨rfl, h3⟩)
  go_wp2_with fail
  go_ret
  exact ⟨rfl, via (((Below.refl w.heap.size w).alloc (Nat.le_refl _) _).alloc (by simp) _) h3⟩
end Go.Proofs.YtbhnbjaafejcjaaDoor


/- All topics' words, as the document tells them. -/
import Derived.Test.YtbhnbjaafejcjaaDoorCfg5
set_option linter.unusedVariables false
namespace Go.Proofs.YtbhnbjaafejcjaaDoor
open Go.RowKit

set_option maxRecDepth 100000 in
set_option maxHeartbeats 4000000 in
theorem rcontrols_short (T B o L cap : Nat) (w : World) (h1 : 1 ≤ T) (h8 : T ≤ 8) (hL : L ≠ 11 + 10 * T) :
    Calls Tryd.prog 36 #[cfgV T, .slice (some ⟨B, o, none⟩) L cap] w fun r w' => r = .returned (.slice none 0 0) ∧ Below w.heap.size w w' := by
  have hC := fun W => rright_any T W (by omega) (by omega)
  have hS := fun W => rsize_any T W (by omega) (by omega)
  have hne : ((L : Int) = 11 + 10 * (T : Int)) ↔ False := iff_false_intro (by omega)
  unfold cfgV at hC hS ⊢
  obtain ⟨w1, hw1, hb1, hbox⟩ := CBox.make w T
  have ⟨lt0, k0, k1, k2, k3, k4, k5, k6, k7, k8⟩ := hbox
  go_enter Tryd.func36, Tryd.ntmps36
  go_wp2_with fail
  clear k0 k1 k2 k3 k4 k5 k6 k7 k8 hw1
  ((refine (hC _).mono ?_); rintro r1 w2 ⟨rfl, h2⟩)
  replace hbox := hbox.below h2
  replace hb1 := hb1.trans (h2.mono hb1.size)
  clear h2 hC
  have ⟨_, k0, k1, k2, k3, k4, k5, k6, k7, k8⟩ := hbox
  go_wp2_with fail
  clear k0 k1 k2 k3 k4 k5 k6 k7 k8
  ((refine (hS _).mono ?_); rintro r1 w3 ⟨rfl, h2⟩)
  replace hb1 := hb1.trans (h2.mono hb1.size)
  clear h2 hS hbox
  go_wp2_with fail
  go_ret
  exact ⟨rfl, hb1⟩

set_option maxRecDepth 100000 in
set_option maxHeartbeats 4000000 in
theorem rcontrols_any (T B o cap : Nat) (W : Nat → BitVec 64) (w : World) (h1 : 1 ≤ T) (h8 : T ≤ 8) (hW : WRow w B o (11 + 10 * T) W) :
    Calls Tryd.prog 36 #[cfgV T, .slice (some ⟨B, o, none⟩) (11 + 10 * T) cap] w fun r w' => ∃ v, r = .returned v ∧ Below w.heap.size w w' ∧ w'.ownsRow w.heap.size 57 5 v T (topicsC W T T) := by
  obtain ⟨i0, hi0, hz0, hz1, hz2⟩ := info_parts infoC
  have hC := fun W => rright_any T W (by omega) (by omega)
  have hS := fun W => rsize_any T W (by omega) (by omega)
  have hP := hid fun W (i : Int) h0 h2 => rcontrol_any T i W (by omega) (by omega) h0 h2
  have hne : (((11 + 10 * T : Nat) : Int) = 11 + 10 * (T : Int)) ↔ True := iff_true_intro (by omega)
  unfold cfgV at hC hS hP ⊢
  obtain ⟨w1, hw1, hb1, hbox⟩ := CBox.make w T
  have ⟨lt0, k0, k1, k2, k3, k4, k5, k6, k7, k8⟩ := hbox
  go_enter Tryd.func36, Tryd.ntmps36
  go_wp2_with fail
  clear k0 k1 k2 k3 k4 k5 k6 k7 k8 hw1
  ((refine (hC _).mono ?_); rintro r1 w2 ⟨rfl, h2⟩)
  replace hbox := hbox.below h2
  replace hb1 := hb1.trans (h2.mono hb1.size)
  clear h2 hC
  have ⟨_, k0, k1, k2, k3, k4, k5, k6, k7, k8⟩ := hbox
  go_wp2_with fail
  clear k0 k1 k2 k3 k4 k5 k6 k7 k8
  ((refine (hS _).mono ?_); rintro r1 w3 ⟨rfl, h2⟩)
  replace hbox := hbox.below h2
  replace hb1 := hb1.trans (h2.mono hb1.size)
  clear h2 hS
  have ⟨_, k0, k1, k2, k3, k4, k5, k6, k7, k8⟩ := hbox
  go_wp2_with fail
  clear k0 k1 k2 k3 k4 k5 k6 k7 k8
  have hW3 := hW.below (hb1.mono (by omega)) 
  have hrel0 := hid (show TopRel w w3 B o T W (.slice none 0 0) (.int .i64 0) w3 from ⟨0, Nat.zero_le _, rfl, own_nil _ _ _ _, Below.refl _ _⟩)
  go_loopw [6, 7] (fun ov i wr => TopRel w w3 B o T W ov i wr) (fun _ i _ => T - (intOf i).toNat)
  case atStart => exact hrel0.out
  case round =>
    clear hrel0
    obtain ⟨t, ht, rfl, hown, hbl⟩ := hrel
    have hbox4 := hbox.below hbl
    have hW4 := hW3.below hbl
    have ⟨_, k0, k1, k2, k3, k4, k5, k6, k7, k8⟩ := hbox4
    by_cases htl : t < T
    · go_wp2_with fail
      ((refine (hP.out _ t (by omega) (by omega)).mono ?_); rintro r5 w5 ⟨rfl, h5⟩)
      clear k0 k1 k2 k3 k4 k5 k6 k7 k8
      have hown5 := own_beneath hown h5
      have hbl5 := hbl.trans (h5.mono hbl.size)
      have hx : w5.cell? ⟨B, o + (6 + T + t * 9), none⟩ = some (U (W (6 + T + 9 * t))) := by rw [Nat.mul_comm t 9]; exact (hW4.below h5).at_ (6 + T + 9 * t) (by omega)
      have Hst := hid (show topicsC W T (t + 1) = topicsC W T t ++ unCs (W (6 + T + 9 * t)) from rfl)
      generalize W (6 + T + 9 * t) = x at *
      clear hown hbl h5 hbox4 hW4 hbox hW3 hW
      go_wp2_with fail
      ((refine (refunpack_any _ _).mono ?_); rintro r6 w6 ⟨rfl, h6⟩)
      have hown6 := own_beneath hown5 h6
      have hbl6 := hbl5.trans (h6.mono hbl5.size)
      clear hown5 hbl5 h6 hx
      unfold unC CV
      have hb7 := below_al w6 (.cells #[.int .i64 (unE x), .int .i64 (unG x), .int .i64 (unB x), .bool (unL x), .bool (unU x)] 57)
      have hown7 := own_beneath hown6 hb7
      have hbl7 := hbl6.trans (hb7.mono hbl6.size)
      clear hb7 hown6
      obtain ⟨ao, co, rfl⟩ := own_shape hown7
      go_wp2_with (at_builtin; go_must (refine wpList_append_own _ rfl (.tmp 23) (.tmp 31) 75 rfl w3.heap.size 57 i0 _ 5 32 Tryd.underlying75 hi0 hz0 hz1 hz2 rfl (by omega) _ t _ rfl hown7 ⟨w6.heap.size, 0, none⟩ 1 1 (unCs x) rfl rfl (news_al w6 _ rfl #[.int .i64 (unE x), .int .i64 (unG x), .int .i64 (unB x), .bool (unL x), .bool (unU x)] 57) (by simp [unCs, Value.oneCell']) (by unfold maxLen; omega) (by omega) hbl7.size ?_); intro v8 w8 hf8 hg8 _)
      have hrel2 := hid (show TopRel w w3 B o T W v8 (.int .i64 (t + 1 : Nat)) w8 from ⟨t + 1, by omega, rfl, by rw [Hst.out]; exact hf8, hbl7.grown hg8 hbl7.size (fun g e => (own_blk hown7 e).2)⟩)
      clear hown7 hbl7 hf8 hg8
      go_roundw
      case rel => exact hrel2.out
      case measure => simp [intOf] <;> omega
    · obtain rfl : t = T := by omega
      go_wp2_with fail
      go_ret
      exact ⟨_, rfl, hb1.trans (hbl.mono hb1.size), own_mono hown hb1.size⟩

end Go.Proofs.YtbhnbjaafejcjaaDoor


import Derived.Test.YtbohkamhcdnmbaaB5
import Derived.Test.YtbohkamhcdnmbaaPl2
set_option linter.unusedVariables false
namespace Go.Proofs.Ytbohkamhcdnmbaa
open Go.RowKit

set_option maxRecDepth 100000 in
set_option maxHeartbeats 1000000 in
theorem law_BitsApart (w0 v0 v1 : BitVec 64) (q0 q1 q2 : Int) (w : World) (hq2 : -9223372036854775808 ≤ q2 ∧ q2 ≤ 9223372036854775807) :
    Calls Try.prog 6 #[U w0, .agg #[U v0, U v1], .agg #[.int .i64 q0, .int .i64 q1, .int .i64 q2]] w fun e w' => e = .returned (.bool true) ∧ Below w.heap.size w w' := by
  obtain ⟨n, hn⟩ := Int.eq_ofNat_of_zero_le (show 0 ≤ 1 + q0 % 32 by omega)
  have hn1 : 1 ≤ n := by omega
  have hn2 : n ≤ 32 := by omega
  obtain ⟨p, hp⟩ := Int.eq_ofNat_of_zero_le (show 0 ≤ q1 % 16 by omega)
  have hp2 : p ≤ 15 := by omega
  obtain ⟨m, hm⟩ := Int.eq_ofNat_of_zero_le (show 0 ≤ 1 + q2 % 8 by omega)
  have hm1 : 1 ≤ m := by omega
  have hm2 : m ≤ 8 := by omega
  have hnm : n % 18446744073709551616 = n := Nat.mod_eq_of_lt (by omega)
  have hmm : m % 18446744073709551616 = m := Nat.mod_eq_of_lt (by omega)
  have hma : 1#64 <<< n - 1#64 = allV n := mask_all n hn1 (by omega)
  have hmb : 1#64 <<< m - 1#64 = allV m := mask_all m hm1 (by omega)
  go_enter Try.func6, Try.ntmps6
  go_wp2_with fail
  refine (awake_any _).mono ?_
  rintro e w1 ⟨rfl, hb⟩
  obtain ⟨hb, hc2⟩ := box_kept hb
  obtain ⟨hb, hc1⟩ := box_kept hb
  have c0 : w1.cell? ⟨w.heap.size, 0, none⟩ = some (U v0) := hc1 0
  have c1 : w1.cell? ⟨w.heap.size, 1, none⟩ = some (U v1) := hc1 1
  have d0 : w1.cell? ⟨w.heap.size + 1, 0, none⟩ = some (.int .i64 q0) := by have := hc2 0; simpa using this
  have d1 : w1.cell? ⟨w.heap.size + 1, 1, none⟩ = some (.int .i64 q1) := by have := hc2 1; simpa using this
  have d2 : w1.cell? ⟨w.heap.size + 1, 2, none⟩ = some (.int .i64 q2) := by have := hc2 2; simpa using this
  have Hb := hid hb
  clear hb hc1 hc2
  go_wp2_with fail
  obtain ⟨t, ht⟩ := Int.eq_ofNat_of_zero_le (show 0 ≤ (p : Int) + n + q2 / 8 % 8 by omega)
  have ht1 : p + n ≤ t := by omega
  have ht2 : t + m ≤ 64 := by omega
  rw [ht]
  have hx := and_all_fits v0 n
  have hy := and_all_fits v1 m
  generalize v0 &&& allV n = x at *
  generalize v1 &&& allV m = y at *
  have ok1 := hid (setOk_of p n hn1 (by omega) x hx)
  have ok2 := hid (setOk_of t m hm1 ht2 y hy)
  have no3 := hid (setOk_over x p n (by omega) hx)
  have g1 := hid (get_under w0 x y p n t m hn1 ht2 ht1 hx hy)
  have g2 := hid (get_set (setV w0 p n x) y t m hm1 ht2 hy)
  have cm := hid (set_comm w0 x y p n t m ht2 ht1 hx hy)
  clear hx hy ht hma hmb
  have H0 := Hb
  clear Hb
  generalize w1 = W0 at *
  refine (set_any _ _ _ _ _ (by omega)).mono ?_
  rw [ok1.out]
  simp only [if_true]
  rintro e w' ⟨rfl, k, rfl⟩
  have H1 := hid (H0.out.trans (below_drewN w.heap.size W0 k))
  clear H0
  generalize W0.drewN k = W1 at *
  go_wp2_with fail
  refine (set_any _ _ _ _ _ (by omega)).mono ?_
  rw [ok2.out]
  simp only [if_true]
  rintro e w' ⟨rfl, k, rfl⟩
  have H2 := hid (H1.out.trans (below_drewN w.heap.size W1 k))
  clear H1
  generalize W1.drewN k = W2 at *
  go_wp2_with fail
  refine (set_any _ _ _ _ _ (by omega)).mono ?_
  rw [ok2.out]
  simp only [if_true]
  rintro e w' ⟨rfl, k, rfl⟩
  have H3 := hid (H2.out.trans (below_drewN w.heap.size W2 k))
  clear H2
  generalize W2.drewN k = W3 at *
  go_wp2_with fail
  refine (set_any _ _ _ _ _ (by omega)).mono ?_
  rw [ok1.out]
  simp only [if_true]
  rw [← cm.out]
  rintro e w' ⟨rfl, k, rfl⟩
  have H4 := hid (H3.out.trans (below_drewN w.heap.size W3 k))
  clear H3
  generalize W3.drewN k = W4 at *
  go_wp2_with fail
  refine (set_any _ _ _ _ _ (by omega)).mono ?_
  rw [no3.out]
  simp only [Bool.false_eq_true, if_false]
  rintro e w' ⟨rfl, k, rfl⟩
  have H5 := hid (H4.out.trans (below_drewN w.heap.size W4 k))
  clear H4
  generalize W4.drewN k = W5 at *
  go_wp2_with fail
  refine (get_any _ _ _ _ (by omega)).mono ?_
  rw [g1.out]
  rintro e w' ⟨rfl, k, rfl⟩
  have H6 := hid (H5.out.trans (below_drewN w.heap.size W5 k))
  clear H5
  generalize W5.drewN k = W6 at *
  go_wp2_with fail
  refine (get_any _ _ _ _ (by omega)).mono ?_
  rw [g2.out]
  rintro e w' ⟨rfl, k, rfl⟩
  have H7 := hid (H6.out.trans (below_drewN w.heap.size W6 k))
  clear H6
  generalize W6.drewN k = W7 at *
  go_wp2_with fail

  go_ret
  exact ⟨rfl, H7.out⟩

end Go.Proofs.Ytbohkamhcdnmbaa

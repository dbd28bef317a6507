import Derived.Test.YtbohkamhcdnmbaaB4
import Derived.Test.YtbohkamhcdnmbaaPl1
set_option linter.unusedVariables false
namespace Go.Proofs.Ytbohkamhcdnmbaa
open Go.RowKit

theorem ret_true {b : Bool} (h : b = true) : Ending.returned (.bool b) = .returned (.bool true) := by rw [h]

set_option maxHeartbeats 400000 in
theorem law_BitsUnmix (x : BitVec 64) (w : World) :
    Calls Try.prog 4 #[U x] w fun e w' => e = .returned (.bool true) ∧ Below w.heap.size w w' := by
  have hu := hid (unmix_mix x)
  go_enter Try.func4, Try.ntmps4
  go_wp2_with fail
  ((with_reducible refine (mix_any _ _).mono ?_); rintro e w' ⟨rfl, rfl⟩)
  go_wp2_with fail
  refine (awake_any _).mono ?_
  rintro e w1 ⟨rfl, hb⟩
  have Hb := hid hb
  clear hb
  go_wp2_with fail
  go_ret
  exact ⟨ret_true (beq_iff_eq.2 hu.out), Hb.out⟩

set_option maxHeartbeats 1000000 in
theorem law_BitsSet (w0 v : BitVec 64) (q0 q1 : Int) (w : World) (hq0 : -9223372036854775808 ≤ q0 ∧ q0 ≤ 9223372036854775807) (hq1 : -9223372036854775808 ≤ q1 ∧ q1 ≤ 9223372036854775807) :
    Calls Try.prog 5 #[U w0, U v, .agg #[.int .i64 q0, .int .i64 q1]] w fun e w' => e = .returned (.bool true) ∧ Below w.heap.size w w' := by
  go_enter Try.func5, Try.ntmps5
  go_wp2_with fail
  refine (awake_any _).mono ?_
  rintro e w1 ⟨rfl, hb⟩
  obtain ⟨hb, hc⟩ := box_kept hb
  have c0 : w1.cell? ⟨w.heap.size, 0, none⟩ = some (.int .i64 q0) := hc 0
  have c1 : w1.cell? ⟨w.heap.size, 1, none⟩ = some (.int .i64 q1) := hc 1
  have Hb := hid hb
  clear hb hc
  obtain ⟨n, hn⟩ := Int.eq_ofNat_of_zero_le (show 0 ≤ 1 + q0 % 64 by omega)
  have hn1 : 1 ≤ n := by omega
  have hn2 : n ≤ 64 := by omega
  have ht := tmod_bd q1 (65 - n) (by omega)
  have hnm : n % 18446744073709551616 = n := Nat.mod_eq_of_lt (by omega)
  by_cases h64 : n < 64
  · have hm : 1#64 <<< n - 1#64 = allV n := mask_all n hn1 h64
    go_wp2_with fail
    have hf : (v &&& allV n) &&& ~~~ allV n = 0#64 := and_all_fits v n
    generalize v &&& allV n = x at *
    clear hm
    obtain ⟨p, hp⟩ := Int.eq_ofNat_of_zero_le (Int.emod_nonneg (q1.tmod (65 - n) + 65 - n) (show (65 : Int) - n ≠ 0 by omega))
    have hpn : p + n ≤ 64 := by
      have := Int.emod_lt_of_pos (q1.tmod (65 - n) + 65 - n) (show (0 : Int) < 65 - n by omega)
      omega
    have hok := setOk_of p n hn1 hpn x hf
    have hgs := get_set w0 x p n hn1 hpn hf
    have hback := hid (set_back w0 x p n hn1 hpn hf)
    have hbits : ∀ i : Nat, i < 64 → ¬ (p ≤ i ∧ i < p + n) → ((setV w0 p n x >>> i) &&& 1#64 != (w0 >>> i) &&& 1#64) = false := fun i hi ho => by
      rw [bit1, bit1, bit_set w0 x p n hn2 hf i hi, if_neg ho]; simp
    have hokb := setOk_of p n hn1 hpn (getV w0 p n) (get_fits w0 p n hn1 hpn)
    rw [hp]
    clear hp ht
    refine (set_any _ _ _ _ _ (by omega)).mono ?_
    rw [hok]
    simp only [if_true]
    rintro e w' ⟨rfl, k, rfl⟩
    have Hb1 := hid (Hb.out.trans (below_drewN w.heap.size w1 k))
    clear c0 c1 Hb
    generalize w1.drewN k = w2 at *
    clear hok hokb
    have Hokb := hid (setOk_of p n hn1 hpn (getV w0 p n) (get_fits w0 p n hn1 hpn))
    go_wp2_with fail
    refine (get_any _ _ _ _ (by omega)).mono ?_
    rw [hgs]
    clear hgs
    rintro e w' ⟨rfl, k, rfl⟩
    have Hb2 := hid (Hb1.out.trans (below_drewN w.heap.size w2 k))
    clear Hb1
    generalize w2.drewN k = w3 at *
    go_wp2_with fail
    go_loop [13] (fun c => ∃ i : Nat, i ≤ 64 ∧ c = .int .i64 i) (fun c => 64 - (intOf c).toNat)
    case atStart => exact ⟨0, by omega, rfl⟩
    case round =>
      obtain ⟨i, hi, rfl⟩ := hrel
      by_cases h1 : i < 64
      · have him : i % 18446744073709551616 = i := Nat.mod_eq_of_lt (by omega)
        by_cases h2 : p ≤ i ∧ i < p + n
        · obtain ⟨h2, h3⟩ := h2
          clear hbits
          go_wp2
          go_round
          case rel => exact ⟨i + 1, by omega, by go_num⟩
          case measure => simp [intOf]; omega
        · have hbi := hbits i h1 h2
          clear hbits
          by_cases h3 : i < p
          all_goals
            go_wp2
            go_round
            case rel => exact ⟨i + 1, by omega, by go_num⟩
            case measure => simp [intOf]; omega
      · obtain rfl : i = 64 := by omega
        clear hbits
        go_wp2_with fail
        ((with_reducible refine (get_any _ _ _ _ (by omega)).mono ?_); rintro e w' ⟨rfl, k, rfl⟩)
        have Hb3 := hid (Hb2.out.trans (below_drewN w.heap.size w3 k))
        clear Hb2
        generalize w3.drewN k = w4 at *
        go_wp2_with fail
        refine (set_any _ _ _ _ _ (by omega)).mono ?_
        rw [Hokb.out]
        simp only [if_true]
        rw [hback.out]
        rintro e w' ⟨rfl, k, rfl⟩
        have Hb4 := hid (Hb3.out.trans (below_drewN w.heap.size w4 k))
        clear Hb3
        generalize w4.drewN k = w5 at *
        go_wp2_with fail
        go_ret
        exact ⟨rfl, Hb4.out⟩
  · have hf : v &&& ~~~ allV n = 0#64 := by
      rw [show ((n : Nat) : Int) = 64 by omega, all64]; simp
    go_wp2_with fail
    obtain ⟨x, rfl⟩ : ∃ x, x = v := ⟨v, rfl⟩
    obtain ⟨p, hp⟩ := Int.eq_ofNat_of_zero_le (Int.emod_nonneg (q1.tmod (65 - n) + 65 - n) (show (65 : Int) - n ≠ 0 by omega))
    have hpn : p + n ≤ 64 := by
      have := Int.emod_lt_of_pos (q1.tmod (65 - n) + 65 - n) (show (0 : Int) < 65 - n by omega)
      omega
    have hok := setOk_of p n hn1 hpn x hf
    have hgs := get_set w0 x p n hn1 hpn hf
    have hback := hid (set_back w0 x p n hn1 hpn hf)
    have hbits : ∀ i : Nat, i < 64 → ¬ (p ≤ i ∧ i < p + n) → ((setV w0 p n x >>> i) &&& 1#64 != (w0 >>> i) &&& 1#64) = false := fun i hi ho => by
      rw [bit1, bit1, bit_set w0 x p n hn2 hf i hi, if_neg ho]; simp
    have hokb := setOk_of p n hn1 hpn (getV w0 p n) (get_fits w0 p n hn1 hpn)
    rw [hp]
    clear hp ht
    refine (set_any _ _ _ _ _ (by omega)).mono ?_
    rw [hok]
    simp only [if_true]
    rintro e w' ⟨rfl, k, rfl⟩
    have Hb1 := hid (Hb.out.trans (below_drewN w.heap.size w1 k))
    clear c0 c1 Hb
    generalize w1.drewN k = w2 at *
    clear hok hokb
    have Hokb := hid (setOk_of p n hn1 hpn (getV w0 p n) (get_fits w0 p n hn1 hpn))
    go_wp2_with fail
    refine (get_any _ _ _ _ (by omega)).mono ?_
    rw [hgs]
    clear hgs
    rintro e w' ⟨rfl, k, rfl⟩
    have Hb2 := hid (Hb1.out.trans (below_drewN w.heap.size w2 k))
    clear Hb1
    generalize w2.drewN k = w3 at *
    go_wp2_with fail
    go_loop [13] (fun c => ∃ i : Nat, i ≤ 64 ∧ c = .int .i64 i) (fun c => 64 - (intOf c).toNat)
    case atStart => exact ⟨0, by omega, rfl⟩
    case round =>
      obtain ⟨i, hi, rfl⟩ := hrel
      by_cases h1 : i < 64
      · have him : i % 18446744073709551616 = i := Nat.mod_eq_of_lt (by omega)
        by_cases h2 : p ≤ i ∧ i < p + n
        · obtain ⟨h2, h3⟩ := h2
          clear hbits
          go_wp2
          go_round
          case rel => exact ⟨i + 1, by omega, by go_num⟩
          case measure => simp [intOf]; omega
        · omega
      · obtain rfl : i = 64 := by omega
        clear hbits
        go_wp2_with fail
        ((with_reducible refine (get_any _ _ _ _ (by omega)).mono ?_); rintro e w' ⟨rfl, k, rfl⟩)
        have Hb3 := hid (Hb2.out.trans (below_drewN w.heap.size w3 k))
        clear Hb2
        generalize w3.drewN k = w4 at *
        go_wp2_with fail
        refine (set_any _ _ _ _ _ (by omega)).mono ?_
        rw [Hokb.out]
        simp only [if_true]
        rw [hback.out]
        rintro e w' ⟨rfl, k, rfl⟩
        have Hb4 := hid (Hb3.out.trans (below_drewN w.heap.size w4 k))
        clear Hb3
        generalize w4.drewN k = w5 at *
        go_wp2_with fail
        go_ret
        exact ⟨rfl, Hb4.out⟩
end Go.Proofs.Ytbohkamhcdnmbaa

import Derived.Test.YtbohkamhcdnmbaaB6
import Derived.Test.YtbohkamhcdnmbaaPl3
set_option linter.unusedVariables false
namespace Go.Proofs.Ytbohkamhcdnmbaa
open Go.RowKit

set_option maxHeartbeats 400000 in
theorem rmay_any (p0 n : Int) (w : World) (_h : -9223372036854775808 ≤ n ∧ n ≤ 9223372036854775807):
    Calls Try.prog 30 #[.int .i64 p0, .int .i64 n] w fun e w' => e = .returned (.bool (mayB p0 n)) ∧ w = w' := by
  by_cases h1 : 1 ≤ n <;> by_cases h2 : n ≤ 64 <;> by_cases h3 : 0 ≤ p0 <;> by_cases h4 : p0 ≤ 64 - n
  all_goals
    go_enter Try.func30, Try.ntmps30
    go_wp2
    go_ret
    simp [mayB, h1, h2, h3, h4]

set_option maxHeartbeats 400000 in
theorem rget_yes (w0 : BitVec 64) (p n : Nat) (w : World) (h1 : 1 ≤ n) (h2 : p + n ≤ 64) :
    Calls Try.prog 29 #[U w0, .int .i64 p, .int .i64 n] w fun e w' => e = .returned (U (getV w0 p n)) ∧ w = w' := by
  have Hm : Hid (mayB p n = true) := by show _ = _; simp [mayB]; omega
  go_enter Try.func29, Try.ntmps29
  go_wp2_with fail
  ((with_reducible refine (rmay_any _ _ _ (by omega)).mono ?_); rintro e w' ⟨rfl, rfl⟩)
  rw [Hm.out]
  go_wp2_with fail
  go_loop [8, 9] (fun v c => ∃ j : Nat, j ≤ n ∧ c = .int .i64 ((j : Int) - 1) ∧ v = U (goneV w0 p n j)) (fun _ c => (intOf c + 1).toNat)
  case atStart => exact ⟨n, by omega, rfl, by unfold goneV; rw [if_neg (by omega)]; rfl⟩
  case round =>
    obtain ⟨j, hj, rfl, rfl⟩ := hrel
    cases j with
    | zero =>
      have hg := hid (gone_all w0 p n h1)
      go_wp2
      go_ret
      exact ⟨ret_U hg.out, rfl⟩
    | succ j =>
      have hg := hid (gone_step w0 p n j h2 (by omega))
      have e1 : ((j + 1 : Nat) : Int) - 1 = j := by omega
      rw [e1]
      have hjm : (p + j) % 18446744073709551616 = p + j := Nat.mod_eq_of_lt (by omega)
      clear e1
      go_wp2
      go_round
      case rel => exact ⟨j, by omega, by go_num, by rw [← hg.out]⟩
      case measure => simp [intOf] <;> omega

theorem rget_any (w0 : BitVec 64) (p0 n : Int) (w : World) (hn : -9223372036854775808 ≤ n ∧ n ≤ 9223372036854775807) :
    Calls Try.prog 29 #[U w0, .int .i64 p0, .int .i64 n] w fun e w' => e = .returned (U (getV w0 p0 n)) ∧ w = w' := by
  cases hm : mayB p0 n
  · have Hr : Hid (getV w0 p0 n = 0#64) := by show _ = _; simp [getV, hm]
    have Hm := hid hm
    clear hm
    go_enter Try.func29, Try.ntmps29
    go_wp2_with fail
    ((with_reducible refine (rmay_any _ _ _ (by omega)).mono ?_); rintro e w' ⟨rfl, rfl⟩)
    rw [Hm.out]
    go_wp2_with fail
    go_ret
    exact ⟨by rw [Hr.out]; rfl, rfl⟩
  · have ⟨h1, h2, h3, h4⟩ : 1 ≤ n ∧ n ≤ 64 ∧ 0 ≤ p0 ∧ p0 ≤ 64 - n := by simpa [mayB] using hm
    obtain ⟨m, rfl⟩ := Int.eq_ofNat_of_zero_le (by omega : 0 ≤ n)
    obtain ⟨p, rfl⟩ := Int.eq_ofNat_of_zero_le h3
    exact rget_yes w0 p m w (by omega) (by omega)

set_option maxHeartbeats 400000 in
theorem rset_yes (w0 v : BitVec 64) (p n : Nat) (w : World) (h1 : 1 ≤ n) (h2 : p + n ≤ 64) (hf : (v &&& ~~~ allV n) = 0#64) :
    Calls Try.prog 28 #[U w0, .int .i64 p, .int .i64 n, U v] w fun e w' => e = .returned (.tuple #[U (setV w0 p n v), .bool true]) ∧ w = w' := by
  have Hm : Hid (mayB p n = true) := by show _ = _; simp [mayB]; omega
  have hs := (fits_shift v n (by omega)).2 hf
  have hnm : n % 18446744073709551616 = n := Nat.mod_eq_of_lt (by omega)
  have Hall := hid (put_all w0 v p n (by omega) hf)
  have H0 := hid (put_zero w0 v p)
  clear hf
  go_enter Try.func28, Try.ntmps28
  go_wp2_with fail
  ((with_reducible refine (rmay_any _ _ _ (by omega)).mono ?_); rintro e w' ⟨rfl, rfl⟩)
  rw [Hm.out]
  go_wp2_with fail
  all_goals
    go_loop [0, 11] (fun v0 c => ∃ i : Nat, i ≤ n ∧ c = .int .i64 i ∧ v0 = U (putV w0 v p i)) (fun _ c => n - (intOf c).toNat)
    case atStart => exact ⟨0, by omega, rfl, by rw [H0.out]⟩
    case round =>
      obtain ⟨i, hi, rfl, rfl⟩ := hrel
      by_cases hlt : i < n
      · have him : i % 18446744073709551616 = i := Nat.mod_eq_of_lt (by omega)
        have hpim : (p + i) % 18446744073709551616 = p + i := Nat.mod_eq_of_lt (by omega)
        have hbr := bit_rem v i
        cases hb : v.getLsbD i
        all_goals
          have hst := hid (put_step w0 v p i (by omega) _ hb)
          rw [hb] at hbr
          clear hb
          go_wp2
          go_round
          case rel => exact ⟨i + 1, by omega, by go_num, congrArg U (by first | exact (if_pos rfl).symm.trans hst.out | exact (if_neg (by decide)).symm.trans hst.out)⟩
          case measure => simp [intOf] <;> omega
      · obtain rfl : i = n := by omega
        go_wp2
        go_ret2
        exact ⟨by rw [← Hall.out]; rfl, rfl⟩

theorem setOk_iff {p n : Nat} {v : BitVec 64} (h1 : 1 ≤ n) (h2 : p + n ≤ 64) (hf : (v &&& ~~~ allV n) ≠ 0#64) : setOk p n v = false := by
  unfold setOk; rw [beq_eq_false_iff_ne.2 hf, Bool.and_false]

set_option maxHeartbeats 400000 in
theorem rset_any (w0 v : BitVec 64) (p0 n : Int) (w : World) (hn : -9223372036854775808 ≤ n ∧ n ≤ 9223372036854775807) :
    Calls Try.prog 28 #[U w0, .int .i64 p0, .int .i64 n, U v] w fun e w' => e = .returned (.tuple #[U (if setOk p0 n v then setV w0 p0 n v else w0), .bool (setOk p0 n v)]) ∧ w = w' := by
  cases hm : mayB p0 n
  · have hno : setOk p0 n v = false := by simp [setOk, hm]
    rw [hno]
    have Hm := hid hm
    clear hm hno
    go_enter Try.func28, Try.ntmps28
    go_wp2_with fail
    ((with_reducible refine (rmay_any _ _ _ (by omega)).mono ?_); rintro e w' ⟨rfl, rfl⟩)
    rw [Hm.out]
    go_wp2_with fail
    go_ret2
    exact ⟨rfl, rfl⟩
  · have ⟨h1, h2, h3, h4⟩ : 1 ≤ n ∧ n ≤ 64 ∧ 0 ≤ p0 ∧ p0 ≤ 64 - n := by simpa [mayB] using hm
    obtain ⟨m, rfl⟩ := Int.eq_ofNat_of_zero_le (by omega : 0 ≤ n)
    obtain ⟨p, rfl⟩ := Int.eq_ofNat_of_zero_le h3
    by_cases hf : (v &&& ~~~ allV m) = 0#64
    · have hok := setOk_of p m (by omega) (by omega) v hf
      rw [hok]
      exact rset_yes w0 v p m w (by omega) (by omega) hf
    · rw [setOk_iff (by omega) (by omega) hf]
      have hs : ¬ v >>> m = 0#64 := fun h => hf ((fits_shift v m (by omega)).1 h)
      have hs' : (v >>> m != 0#64) = true := by simp [hs]
      have hlt : m < 64 := by
        rcases Nat.lt_or_ge m 64 with h | h
        · exact h
        · obtain rfl : m = 64 := by omega
          exact absurd (by rw [show ((64 : Nat) : Int) = 64 from rfl, all64]; simp) hf
      have hnm : m % 18446744073709551616 = m := Nat.mod_eq_of_lt (by omega)
      have Hm := hid hm
      clear hm hf hs
      go_enter Try.func28, Try.ntmps28
      go_wp2_with fail
      ((with_reducible refine (rmay_any _ _ _ (by omega)).mono ?_); rintro e w' ⟨rfl, rfl⟩)
      rw [Hm.out]
      go_wp2_with fail
      go_ret2
      exact ⟨rfl, rfl⟩

end Go.Proofs.Ytbohkamhcdnmbaa

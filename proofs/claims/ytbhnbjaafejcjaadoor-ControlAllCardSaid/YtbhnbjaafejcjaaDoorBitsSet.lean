/- Contracts of bits.Set, bits.Get. -/
import Derived.Test.YtbhnbjaafejcjaaDoorRows
import Derived.Test.YtbhnbjaafejcjaaDoorBitsV
import Derived.Deep.QuietTactic
import Derived.BigQuiet
set_option linter.unusedVariables false
namespace Go.Proofs.YtbhnbjaafejcjaaDoor
open Go.RowKit

set_option maxHeartbeats 400000 in
theorem may_any (at' n : Int) (w : World) (_h : -9223372036854775808 ≤ n ∧ n ≤ 9223372036854775807):
    Calls Tryd.prog 82 #[.int .i64 at', .int .i64 n] w fun e w' => e = .returned (.bool (mayB at' n)) ∧ w = w' := by
  by_cases h1 : 1 ≤ n <;> by_cases h2 : n ≤ 64 <;> by_cases h3 : 0 ≤ at' <;> by_cases h4 : at' ≤ 64 - n
  all_goals
    go_enter Tryd.func82, Tryd.ntmps82
    go_wp2
    go_ret
    simp [mayB, h1, h2, h3, h4]

theorem all_any (n : Int) (w : World) (h1 : 1 ≤ n) (h2 : n ≤ 64) :
    Calls Tryd.prog 83 #[.int .i64 n] w fun e w' => e = .returned (U (allV n)) ∧ w = w' := by
  have hv : Value.int .u64 (18446744073709551615 / 2 ^ (64 - n).toNat) = U (allV n) := by
    unfold U allV
    rw [BitVec.toNat_ushiftRight, Nat.shiftRight_eq_div_pow]
    have : (BitVec.allOnes 64).toNat = 18446744073709551615 := by decide
    rw [this]; simp
  have Hv := hid hv
  clear hv
  go_enter Tryd.func83, Tryd.ntmps83
  go_wp2
  go_ret
  exact ⟨congrArg _ Hv.out, rfl⟩

set_option maxHeartbeats 400000 in
theorem set_yes (w0 v : BitVec 64) (at' n : Int) (w : World) (h1 : 1 ≤ n) (h2 : n ≤ 64) (h3 : 0 ≤ at') (h4 : at' ≤ 64 - n) (h5 : (v &&& ~~~ allV n != 0#64) = false) :
    Calls Tryd.prog 61 #[U w0, .int .i64 at', .int .i64 n, U v] w fun e w' => e = .returned (.tuple #[U (setV w0 at' n v), .bool true]) ∧ ∃ k, w' = w.drewN k := by
  have hm : mayB at' n = true := by simp [mayB, h1, h2, h3, h4]
  have Hm := hid hm
  clear hm
  go_enter Tryd.func61, Tryd.ntmps61
  go_wp2_with fail
  ((with_reducible refine (may_any _ _ _ (by omega)).mono ?_); rintro e w' ⟨rfl, rfl⟩)
  rw [Hm.out]
  go_wp2_with fail
  ((with_reducible refine (all_any _ _ (by omega) (by omega)).mono ?_); rintro e w' ⟨rfl, rfl⟩)
  go_wp2_with fail
  go_quiet ((go_at_call 83; exact Calls.quiet_of_same ((all_any _ _ (by omega) (by omega)).mono fun _ _ ⟨a, b⟩ => ⟨a, b.symm⟩)))
  go_wp2
  go_ret2
  exact ⟨rfl, _, rfl⟩

set_option maxHeartbeats 400000 in
theorem set_no (w0 v : BitVec 64) (at' n : Int) (w : World) (hn : -9223372036854775808 ≤ n ∧ n ≤ 9223372036854775807) (h : mayB at' n = false) :
    Calls Tryd.prog 61 #[U w0, .int .i64 at', .int .i64 n, U v] w fun e w' => e = .returned (.tuple #[U w0, .bool false]) ∧ ∃ k, w' = w.drewN k := by
  have Hm := hid h
  clear h
  go_enter Tryd.func61, Tryd.ntmps61
  go_wp2_with fail
  ((with_reducible refine (may_any _ _ _ (by omega)).mono ?_); rintro e w' ⟨rfl, rfl⟩)
  rw [Hm.out]
  go_wp2_with fail
  go_ret2
  exact ⟨rfl, 0, rfl⟩

set_option maxHeartbeats 400000 in
theorem set_no2 (w0 v : BitVec 64) (at' n : Int) (w : World) (h1 : 1 ≤ n) (h2 : n ≤ 64) (h3 : 0 ≤ at') (h4 : at' ≤ 64 - n) (h5 : (v &&& ~~~ allV n != 0#64) = true) :
    Calls Tryd.prog 61 #[U w0, .int .i64 at', .int .i64 n, U v] w fun e w' => e = .returned (.tuple #[U w0, .bool false]) ∧ ∃ k, w' = w.drewN k := by
  have hm : mayB at' n = true := by simp [mayB, h1, h2, h3, h4]
  have Hm := hid hm
  clear hm
  go_enter Tryd.func61, Tryd.ntmps61
  go_wp2_with fail
  ((with_reducible refine (may_any _ _ _ (by omega)).mono ?_); rintro e w' ⟨rfl, rfl⟩)
  rw [Hm.out]
  go_wp2_with fail
  ((with_reducible refine (all_any _ _ (by omega) (by omega)).mono ?_); rintro e w' ⟨rfl, rfl⟩)
  go_wp2_with fail
  go_ret2
  exact ⟨rfl, 0, rfl⟩

set_option maxHeartbeats 400000 in
theorem get_any (w0 : BitVec 64) (at' n : Int) (w : World) (hn : -9223372036854775808 ≤ n ∧ n ≤ 9223372036854775807) :
    Calls Tryd.prog 59 #[U w0, .int .i64 at', .int .i64 n] w fun e w' => e = .returned (U (getV w0 at' n)) ∧ ∃ k, w' = w.drewN k := by
  cases hm : mayB at' n
  · have hr : getV w0 at' n = 0#64 := by simp [getV, hm]
    have Hm := hid hm
    have Hr := hid hr
    clear hm hr
    go_enter Tryd.func59, Tryd.ntmps59
    go_wp2_with fail
    ((with_reducible refine (may_any _ _ _ (by omega)).mono ?_); rintro e w' ⟨rfl, rfl⟩)
    rw [Hm.out]
    go_wp2_with fail
    go_ret
    exact ⟨by rw [Hr.out]; rfl, 0, rfl⟩
  · have hr : getV w0 at' n = w0 >>> at'.toNat &&& allV n := by simp [getV, hm]
    have ⟨h1, h2, h3, h4⟩ : 1 ≤ n ∧ n ≤ 64 ∧ 0 ≤ at' ∧ at' ≤ 64 - n := by simpa [mayB] using hm
    have Hm := hid hm
    have Hr := hid hr
    clear hm hr
    go_enter Tryd.func59, Tryd.ntmps59
    go_wp2_with fail
    ((with_reducible refine (may_any _ _ _ (by omega)).mono ?_); rintro e w' ⟨rfl, rfl⟩)
    rw [Hm.out]
    go_wp2_with fail
    go_quiet ((go_at_call 83; exact Calls.quiet_of_same ((all_any _ _ (by omega) (by omega)).mono fun _ _ ⟨a, b⟩ => ⟨a, b.symm⟩)))
    go_wp2
    go_ret
    exact ⟨by rw [Hr.out]; rfl, _, rfl⟩

theorem set_any (w0 v : BitVec 64) (at' n : Int) (w : World) (hn : -9223372036854775808 ≤ n ∧ n ≤ 9223372036854775807) :
    Calls Tryd.prog 61 #[U w0, .int .i64 at', .int .i64 n, U v] w fun e w' => e = .returned (.tuple #[U (if setOk at' n v then setV w0 at' n v else w0), .bool (setOk at' n v)]) ∧ ∃ k, w' = w.drewN k := by
  cases hm : mayB at' n
  · have : setOk at' n v = false := by simp [setOk, hm]
    rw [this]; exact set_no w0 v at' n w hn hm
  · have ⟨h1, h2, h3, h4⟩ : 1 ≤ n ∧ n ≤ 64 ∧ 0 ≤ at' ∧ at' ≤ 64 - n := by simpa [mayB] using hm
    cases h5 : (v &&& ~~~ allV n != 0#64)
    · have : setOk at' n v = true := by rw [setOk, hm, Bool.true_and]; simpa using h5
      rw [this]; exact set_yes w0 v at' n w h1 h2 h3 h4 h5
    · have : setOk at' n v = false := by rw [setOk, hm, Bool.true_and]; simpa using h5
      rw [this]; exact set_no2 w0 v at' n w h1 h2 h3 h4 h5

end Go.Proofs.YtbhnbjaafejcjaaDoor


/- Contract of bits.Get, by itself. -/
import Derived.Test.YtblbhlgihlgncaaDoorGj
import Derived.Test.YtblbhlgihlgncaaDoorGa
import Derived.Deep.QuietTactic
import Derived.BigQuiet
set_option linter.unusedVariables false
set_option linter.unusedSimpArgs false
namespace Go.Proofs.YtblbhlgihlgncaaDoor
section SBGet
open Go.RowKit

set_option maxHeartbeats 400000 in
theorem bmay_any (at' n : Int) (w : World) (_h : -9223372036854775808 ≤ n ∧ n ≤ 9223372036854775807):
    Calls Tryd.prog 67 #[.int .i64 at', .int .i64 n] w fun e w' => e = .returned (.bool (mayB at' n)) ∧ w = w' := by
  by_cases h1 : 1 ≤ n <;> by_cases h2 : n ≤ 64 <;> by_cases h3 : 0 ≤ at' <;> by_cases h4 : at' ≤ 64 - n
  all_goals
    go_enter Tryd.func67, Tryd.ntmps67
    go_wp2
    go_ret
    simp [mayB, h1, h2, h3, h4]
theorem ball_any (n : Int) (w : World) (h1 : 1 ≤ n) (h2 : n ≤ 64) :
    Calls Tryd.prog 68 #[.int .i64 n] w fun e w' => e = .returned (U (allV n)) ∧ w = w' := by
  have hv : Value.int .u64 (18446744073709551615 / 2 ^ (64 - n).toNat) = U (allV n) := by
    unfold U allV
    rw [BitVec.toNat_ushiftRight, Nat.shiftRight_eq_div_pow]
    have : (BitVec.allOnes 64).toNat = 18446744073709551615 := by decide
    rw [this]; simp
  have Hv := hid hv
  clear hv
  go_enter Tryd.func68, Tryd.ntmps68
  go_wp2
  go_ret
  exact ⟨congrArg _ Hv.out, rfl⟩
set_option maxHeartbeats 400000 in
theorem bget_any (w0 : BitVec 64) (at' n : Int) (w : World) (h1 : 1 ≤ n) (h2 : n ≤ 64) (h3 : 0 ≤ at') (h4 : at' ≤ 64 - n) :
    Calls Tryd.prog 45 #[U w0, .int .i64 at', .int .i64 n] w fun e w' => e = .returned (U (getV w0 at' n)) ∧ ∃ k, w' = w.drewN k := by
  have hm : mayB at' n = true := by simp [mayB, h1, h2, h3, h4]
  have hr : getV w0 at' n = w0 >>> at'.toNat &&& allV n := by simp [getV, hm]
  have Hm := hid hm
  have Hr := hid hr
  clear hm hr
  go_enter Tryd.func45, Tryd.ntmps45
  go_wp2_with fail
  ((with_reducible refine (bmay_any _ _ _ (by omega)).mono ?_); rintro e w' ⟨rfl, rfl⟩)
  rw [Hm.out]
  go_wp2_with fail
  go_quiet ((go_at_call 68; exact Calls.quiet_of_same ((ball_any _ _ (by omega) (by omega)).mono fun _ _ ⟨a, b⟩ => ⟨a, b.symm⟩)))
  go_wp2
  go_ret
  exact ⟨by rw [Hr.out]; rfl, _, rfl⟩
end SBGet

end Go.Proofs.YtblbhlgihlgncaaDoor


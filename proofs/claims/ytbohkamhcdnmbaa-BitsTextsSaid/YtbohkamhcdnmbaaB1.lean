import Derived.Test.YtbohkamhcdnmbaaRows
import Derived.Test.YtbohkamhcdnmbaaBase
import Derived.Deep.QuietTactic
import Derived.BigQuiet
set_option linter.unusedVariables false
namespace Go.Proofs.Ytbohkamhcdnmbaa
open Go.RowKit

def mayB (at' n : Int) : Bool := decide (1 ≤ n ∧ n ≤ 64 ∧ 0 ≤ at' ∧ at' ≤ 64 - n)
def allV (n : Int) : BitVec 64 := BitVec.allOnes 64 >>> (64 - n).toNat

def mixV (x : BitVec 64) : BitVec 64 :=
  let a := (x ^^^ x >>> 30) * 0xbf58476d1ce4e5b9#64
  let b := (a ^^^ a >>> 27) * 0x94d049bb133111eb#64
  b ^^^ b >>> 31

set_option maxHeartbeats 400000 in
theorem mix_any (x : BitVec 64) (w : World) :
    Calls Try.prog 11 #[U x] w fun e w' => e = .returned (U (mixV x)) ∧ w = w' := by
  go_enter Try.func11, Try.ntmps11
  go_wp2
  go_ret
  exact ⟨rfl, rfl⟩

set_option maxHeartbeats 400000 in
theorem rmix_any (x : BitVec 64) (w : World) :
    Calls Try.prog 12 #[U x] w fun e w' => e = .returned (U (mixV x)) ∧ w = w' := by
  go_enter Try.func12, Try.ntmps12
  go_wp2
  go_ret
  exact ⟨rfl, rfl⟩

set_option maxHeartbeats 400000 in
theorem may_any (at' n : Int) (w : World) (_h : -9223372036854775808 ≤ n ∧ n ≤ 9223372036854775807):
    Calls Try.prog 26 #[.int .i64 at', .int .i64 n] w fun e w' => e = .returned (.bool (mayB at' n)) ∧ w = w' := by
  by_cases h1 : 1 ≤ n <;> by_cases h2 : n ≤ 64 <;> by_cases h3 : 0 ≤ at' <;> by_cases h4 : at' ≤ 64 - n
  all_goals
    go_enter Try.func26, Try.ntmps26
    go_wp2
    go_ret
    simp [mayB, h1, h2, h3, h4]

theorem all_any (n : Int) (w : World) (h1 : 1 ≤ n) (h2 : n ≤ 64) :
    Calls Try.prog 27 #[.int .i64 n] w fun e w' => e = .returned (U (allV n)) ∧ w = w' := by
  have hv : Value.int .u64 (18446744073709551615 / 2 ^ (64 - n).toNat) = U (allV n) := by
    unfold U allV
    rw [BitVec.toNat_ushiftRight, Nat.shiftRight_eq_div_pow]
    have : (BitVec.allOnes 64).toNat = 18446744073709551615 := by decide
    rw [this]; simp
  have Hv := hid hv
  clear hv
  go_enter Try.func27, Try.ntmps27
  go_wp2
  go_ret
  exact ⟨congrArg _ Hv.out, rfl⟩

def setV (w : BitVec 64) (at' n : Int) (v : BitVec 64) : BitVec 64 := (w &&& ~~~ (allV n <<< at'.toNat)) ||| (v <<< at'.toNat)
def setOk (at' n : Int) (v : BitVec 64) : Bool := mayB at' n && (v &&& ~~~ allV n) == 0#64

set_option maxHeartbeats 400000 in
theorem set_yes (w0 v : BitVec 64) (at' n : Int) (w : World) (h1 : 1 ≤ n) (h2 : n ≤ 64) (h3 : 0 ≤ at') (h4 : at' ≤ 64 - n) (h5 : (v &&& ~~~ allV n != 0#64) = false) :
    Calls Try.prog 13 #[U w0, .int .i64 at', .int .i64 n, U v] w fun e w' => e = .returned (.tuple #[U (setV w0 at' n v), .bool true]) ∧ ∃ k, w' = w.drewN k := by
  have hm : mayB at' n = true := by simp [mayB, h1, h2, h3, h4]
  have Hm := hid hm
  clear hm
  go_enter Try.func13, Try.ntmps13
  go_wp2_with fail
  ((with_reducible refine (may_any _ _ _ (by omega)).mono ?_); rintro e w' ⟨rfl, rfl⟩)
  rw [Hm.out]
  go_wp2_with fail
  ((with_reducible refine (all_any _ _ (by omega) (by omega)).mono ?_); rintro e w' ⟨rfl, rfl⟩)
  go_wp2_with fail
  go_quiet ((go_at_call 27; exact Calls.quiet_of_same ((all_any _ _ (by omega) (by omega)).mono fun _ _ ⟨a, b⟩ => ⟨a, b.symm⟩)))
  go_wp2
  go_ret2
  exact ⟨rfl, _, rfl⟩


set_option maxHeartbeats 400000 in
theorem set_no (w0 v : BitVec 64) (at' n : Int) (w : World) (hn : -9223372036854775808 ≤ n ∧ n ≤ 9223372036854775807) (h : mayB at' n = false) :
    Calls Try.prog 13 #[U w0, .int .i64 at', .int .i64 n, U v] w fun e w' => e = .returned (.tuple #[U w0, .bool false]) ∧ ∃ k, w' = w.drewN k := by
  have Hm := hid h
  clear h
  go_enter Try.func13, Try.ntmps13
  go_wp2_with fail
  ((with_reducible refine (may_any _ _ _ (by omega)).mono ?_); rintro e w' ⟨rfl, rfl⟩)
  rw [Hm.out]
  go_wp2_with fail
  go_ret2
  exact ⟨rfl, 0, rfl⟩

set_option maxHeartbeats 400000 in
theorem set_no2 (w0 v : BitVec 64) (at' n : Int) (w : World) (h1 : 1 ≤ n) (h2 : n ≤ 64) (h3 : 0 ≤ at') (h4 : at' ≤ 64 - n) (h5 : (v &&& ~~~ allV n != 0#64) = true) :
    Calls Try.prog 13 #[U w0, .int .i64 at', .int .i64 n, U v] w fun e w' => e = .returned (.tuple #[U w0, .bool false]) ∧ ∃ k, w' = w.drewN k := by
  have hm : mayB at' n = true := by simp [mayB, h1, h2, h3, h4]
  have Hm := hid hm
  clear hm
  go_enter Try.func13, Try.ntmps13
  go_wp2_with fail
  ((with_reducible refine (may_any _ _ _ (by omega)).mono ?_); rintro e w' ⟨rfl, rfl⟩)
  rw [Hm.out]
  go_wp2_with fail
  ((with_reducible refine (all_any _ _ (by omega) (by omega)).mono ?_); rintro e w' ⟨rfl, rfl⟩)
  go_wp2_with fail
  go_ret2
  exact ⟨rfl, 0, rfl⟩

def getV (w : BitVec 64) (at' n : Int) : BitVec 64 := if mayB at' n then w >>> at'.toNat &&& allV n else 0#64

set_option maxHeartbeats 400000 in
theorem get_any (w0 : BitVec 64) (at' n : Int) (w : World) (hn : -9223372036854775808 ≤ n ∧ n ≤ 9223372036854775807) :
    Calls Try.prog 14 #[U w0, .int .i64 at', .int .i64 n] w fun e w' => e = .returned (U (getV w0 at' n)) ∧ ∃ k, w' = w.drewN k := by
  cases hm : mayB at' n
  · have hr : getV w0 at' n = 0#64 := by simp [getV, hm]
    have Hm := hid hm
    have Hr := hid hr
    clear hm hr
    go_enter Try.func14, Try.ntmps14
    go_wp2_with fail
    ((with_reducible refine (may_any _ _ _ (by omega)).mono ?_); rintro e w' ⟨rfl, rfl⟩)
    rw [Hm.out]
    go_wp2_with fail
    go_ret
    exact ⟨by rw [Hr.out]; rfl, 0, rfl⟩
  · have hr : getV w0 at' n = w0 >>> at'.toNat &&& allV n := by simp [getV, hm]
    have ⟨h1, h2, h3, h4⟩ : 1 ≤ n ∧ n ≤ 64 ∧ 0 ≤ at' ∧ at' ≤ 64 - n := by simpa [mayB] using hm
    have Hm := hid hm
    have Hr := hid hr
    clear hm hr
    go_enter Try.func14, Try.ntmps14
    go_wp2_with fail
    ((with_reducible refine (may_any _ _ _ (by omega)).mono ?_); rintro e w' ⟨rfl, rfl⟩)
    rw [Hm.out]
    go_wp2_with fail
    go_quiet ((go_at_call 27; exact Calls.quiet_of_same ((all_any _ _ (by omega) (by omega)).mono fun _ _ ⟨a, b⟩ => ⟨a, b.symm⟩)))
    go_wp2
    go_ret
    exact ⟨by rw [Hr.out]; rfl, _, rfl⟩

def countV (n : Int) : Int := if n ≤ 0 then 0 else (n + 7) / 8

theorem ret_i64 {a b : Int} (h : a = b) : Ending.returned (.int .i64 a) = .returned (.int .i64 b) := by rw [h]
theorem count_any (n : Int) (w : World) (hn : -9223372036854775808 ≤ n ∧ n ≤ 9223372036854775807) :
    Calls Try.prog 22 #[.int .i64 n] w fun e w' => e = .returned (.int .i64 (countV n)) ∧ w = w' := by
  by_cases h0 : 0 < n
  · have Hr : Hid (countV n = (n + 7) / 8) := by unfold countV; exact if_neg (by omega)
    by_cases h8 : n % 8 = 0
    · have h8' : (n % 8 == 0) = true := by simp [h8]
      have H8 := hid h8
      clear h8
      go_enter Try.func22, Try.ntmps22
      go_wp2
      go_ret
      exact ⟨ret_i64 (by rw [Hr.out]; have := H8.out; omega), rfl⟩
    · have h8' : (n % 8 == 0) = false := by simp [h8]
      have H8 := hid h8
      clear h8
      go_enter Try.func22, Try.ntmps22
      go_wp2
      go_ret
      exact ⟨ret_i64 (by rw [Hr.out]; have := H8.out; omega), rfl⟩
  · have Hr : Hid (countV n = 0) := by unfold countV; exact if_pos (by omega)
    by_cases h1 : n < 0
    · go_enter Try.func22, Try.ntmps22
      go_wp2
      go_ret
      exact ⟨ret_i64 (by rw [Hr.out]), rfl⟩
    · obtain rfl : n = 0 := by omega
      go_enter Try.func22, Try.ntmps22
      go_wp2
      go_ret
      exact ⟨ret_i64 (by rw [Hr.out]), rfl⟩

theorem set_any (w0 v : BitVec 64) (at' n : Int) (w : World) (hn : -9223372036854775808 ≤ n ∧ n ≤ 9223372036854775807) :
    Calls Try.prog 13 #[U w0, .int .i64 at', .int .i64 n, U v] w fun e w' => e = .returned (.tuple #[U (if setOk at' n v then setV w0 at' n v else w0), .bool (setOk at' n v)]) ∧ ∃ k, w' = w.drewN k := by
  cases hm : mayB at' n
  · have : setOk at' n v = false := by simp [setOk, hm]
    rw [this]; exact set_no w0 v at' n w hn hm
  · have ⟨h1, h2, h3, h4⟩ : 1 ≤ n ∧ n ≤ 64 ∧ 0 ≤ at' ∧ at' ≤ 64 - n := by simpa [mayB] using hm
    cases h5 : (v &&& ~~~ allV n != 0#64)
    · have : setOk at' n v = true := by rw [setOk, hm, Bool.true_and]; simpa using h5
      rw [this]; exact set_yes w0 v at' n w h1 h2 h3 h4 h5
    · have : setOk at' n v = false := by rw [setOk, hm, Bool.true_and]; simpa using h5
      rw [this]; exact set_no2 w0 v at' n w h1 h2 h3 h4 h5

end Go.Proofs.Ytbohkamhcdnmbaa

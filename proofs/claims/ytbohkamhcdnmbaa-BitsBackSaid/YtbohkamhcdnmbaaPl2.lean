/- Parts of words that have no bit in common. No program in sight. -/
import Derived.Test.YtbohkamhcdnmbaaPl1
set_option linter.unusedVariables false
namespace Go.Proofs.Ytbohkamhcdnmbaa

theorem set_comm (w x y : BitVec 64) (p n t m : Nat) (h2 : t + m ≤ 64) (hpt : p + n ≤ t) (hx : (x &&& ~~~ allV n) = 0#64) (hy : (y &&& ~~~ allV m) = 0#64) :
    setV (setV w p n x) t m y = setV (setV w t m y) p n x := by
  apply BitVec.eq_of_getLsbD_eq
  intro i hi
  rw [bit_set _ y t m (by omega) hy i hi, bit_set _ x p n (by omega) hx i hi, bit_set _ x p n (by omega) hx i hi, bit_set _ y t m (by omega) hy i hi]
  by_cases h3 : t ≤ i ∧ i < t + m
  · rw [if_pos h3, if_neg (by omega), if_pos h3]
  · rw [if_neg h3, if_neg h3]

theorem get_under (w x y : BitVec 64) (p n t m : Nat) (h1 : 1 ≤ n) (h2 : t + m ≤ 64) (hpt : p + n ≤ t) (hx : (x &&& ~~~ allV n) = 0#64) (hy : (y &&& ~~~ allV m) = 0#64) :
    getV (setV (setV w p n x) t m y) p n = x := by
  rw [set_comm w x y p n t m h2 hpt hx hy]
  exact get_set _ x p n h1 (by omega) hx

theorem over_bit (x : BitVec 64) (n : Nat) (hn : n < 64) (hx : (x &&& ~~~ allV n) = 0#64) : ((x + 1#64 <<< n) &&& ~~~ allV n) ≠ 0#64 := by
  intro h
  have hb := fits_bit (by omega) h n (Nat.le_refl _)
  have hxl : x.toNat < 2 ^ n := by
    apply Nat.lt_pow_two_of_testBit
    intro i hi
    exact fits_bit (by omega) hx i hi
  have hp : 2 ^ (n + 1) ≤ 2 ^ 64 := Nat.pow_le_pow_right (by decide) (by omega)
  have e : (x + 1#64 <<< n).toNat = 2 ^ n + x.toNat := by
    rw [BitVec.toNat_add, BitVec.toNat_shiftLeft, Nat.shiftLeft_eq]
    have h1 : (1#64).toNat = 1 := by decide
    rw [Nat.pow_succ] at hp
    rw [h1, Nat.one_mul, Nat.mod_eq_of_lt (show 2 ^ n < 2 ^ 64 by omega), Nat.mod_eq_of_lt (by omega)]
    omega
  rw [← BitVec.testBit_toNat, e, Nat.testBit_two_pow_add_eq] at hb
  rw [Nat.testBit_lt_two_pow hxl] at hb
  cases hb

theorem setOk_over (x : BitVec 64) (p n : Nat) (hn : n < 64) (hx : (x &&& ~~~ allV n) = 0#64) : setOk p n (x + 1#64 <<< n) = false := by
  unfold setOk
  rw [beq_eq_false_iff_ne.2 (over_bit x n hn hx), Bool.and_false]

end Go.Proofs.Ytbohkamhcdnmbaa

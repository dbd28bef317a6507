/- Parts of words: what is set and told, bit by bit. No program in sight. -/
import Derived.Test.YtbhnbjaafejcjaaDoorBitsV
set_option linter.unusedVariables false
namespace Go.Proofs.YtbhnbjaafejcjaaDoor

theorem bit_all (n : Nat) (hn : n ≤ 64) (i : Nat) (hi : i < 64) : (allV n).getLsbD i = decide (i < n) := by
  unfold allV
  rw [BitVec.getLsbD_ushiftRight, BitVec.getLsbD_allOnes, decide_eq_decide]
  omega

theorem fits_bit {n : Nat} (hn : n ≤ 64) {v : BitVec 64} (h : (v &&& ~~~ allV n) = 0#64) (i : Nat) (hi : n ≤ i) : v.getLsbD i = false := by
  by_cases h64 : i < 64
  · have := congrArg (fun z => z.getLsbD i) h
    simp only [BitVec.getLsbD_and, BitVec.getLsbD_not, bit_all n hn i h64, h64, decide_true, BitVec.getLsbD_zero] at this
    have hd : decide (i < n) = false := by simp; omega
    rw [hd] at this
    simpa using this
  · exact BitVec.getLsbD_of_ge _ _ (by omega)

theorem fits_of_bits {n : Nat} (hn : n ≤ 64) {v : BitVec 64} (h : ∀ i, n ≤ i → v.getLsbD i = false) : (v &&& ~~~ allV n) = 0#64 := by
  apply BitVec.eq_of_getLsbD_eq
  intro i hi
  simp only [BitVec.getLsbD_and, BitVec.getLsbD_not, bit_all n hn i hi, hi, decide_true, BitVec.getLsbD_zero]
  by_cases h2 : i < n
  · simp [h2]
  · rw [h i (by omega)]; rfl

theorem bit_set (w v : BitVec 64) (p n : Nat) (hn : n ≤ 64) (hf : (v &&& ~~~ allV n) = 0#64) (i : Nat) (hi : i < 64) :
    (setV w p n v).getLsbD i = if p ≤ i ∧ i < p + n then v.getLsbD (i - p) else w.getLsbD i := by
  unfold setV
  rw [Int.toNat_natCast]
  simp only [BitVec.getLsbD_or, BitVec.getLsbD_and, BitVec.getLsbD_not, BitVec.getLsbD_shiftLeft, hi, decide_true, Bool.true_and]
  by_cases h1 : i < p
  · have h2 : ¬ p ≤ i := by omega
    simp [h1, h2]
  · have h2 : p ≤ i := by omega
    rw [bit_all n hn _ (by omega)]
    by_cases h3 : i < p + n
    · have h4 : i - p < n := by omega
      simp [h1, h2, h3, h4]
    · have h4 : ¬ i - p < n := by omega
      rw [fits_bit hn hf (i - p) (by omega)]
      simp [h1, h3, h4]

theorem bit_get (w : BitVec 64) (p n : Nat) (h1 : 1 ≤ n) (h2 : p + n ≤ 64) (i : Nat) (hi : i < 64) :
    (getV w p n).getLsbD i = (decide (i < n) && w.getLsbD (p + i)) := by
  unfold getV
  have : mayB p n = true := by simp [mayB]; omega
  rw [if_pos this, Int.toNat_natCast, BitVec.getLsbD_and, BitVec.getLsbD_ushiftRight, bit_all n (by omega) i hi, Bool.and_comm]

theorem setOk_of (p n : Nat) (h1 : 1 ≤ n) (h2 : p + n ≤ 64) (v : BitVec 64) (hf : (v &&& ~~~ allV n) = 0#64) : setOk p n v = true := by
  unfold setOk
  have : mayB p n = true := by simp [mayB]; omega
  rw [this, hf]; rfl

theorem get_set (w v : BitVec 64) (p n : Nat) (h1 : 1 ≤ n) (h2 : p + n ≤ 64) (hf : (v &&& ~~~ allV n) = 0#64) : getV (setV w p n v) p n = v := by
  apply BitVec.eq_of_getLsbD_eq
  intro i hi
  rw [bit_get _ p n h1 h2 i hi]
  by_cases h3 : i < n
  · rw [bit_set w v p n (by omega) hf _ (by omega), if_pos (by omega)]
    simp [h3]
  · rw [fits_bit (by omega) hf i (by omega)]; simp [h3]

theorem get_fits (w : BitVec 64) (p n : Nat) (h1 : 1 ≤ n) (h2 : p + n ≤ 64) : (getV w p n &&& ~~~ allV n) = 0#64 :=
  fits_of_bits (by omega) fun i hi => by
    by_cases h : i < 64
    · rw [bit_get w p n h1 h2 i h]
      have : ¬ i < n := by omega
      simp [this]
    · exact BitVec.getLsbD_of_ge _ _ (by omega)

theorem set_back (w v : BitVec 64) (p n : Nat) (h1 : 1 ≤ n) (h2 : p + n ≤ 64) (hf : (v &&& ~~~ allV n) = 0#64) : setV (setV w p n v) p n (getV w p n) = w := by
  apply BitVec.eq_of_getLsbD_eq
  intro i hi
  rw [bit_set _ _ p n (by omega) (get_fits w p n h1 h2) i hi]
  by_cases h3 : p ≤ i ∧ i < p + n
  · rw [if_pos h3, bit_get w p n h1 h2 _ (by omega)]
    have : i - p < n := by omega
    rw [show p + (i - p) = i by omega]
    simp [this]
  · rw [if_neg h3, bit_set w v p n (by omega) hf i hi, if_neg h3]

/-- A mask of n bits. -/
theorem mask_all (n : Nat) (h1 : 1 ≤ n) (h2 : n < 64) : 1#64 <<< n - 1#64 = allV n := by
  apply BitVec.eq_of_toNat_eq
  have hp : 2 ^ n < 2 ^ 64 := Nat.pow_lt_pow_right (by decide) h2
  have h0 : 0 < 2 ^ n := Nat.pow_pos (by decide)
  unfold allV
  rw [BitVec.toNat_sub, BitVec.toNat_shiftLeft, BitVec.toNat_ushiftRight, Nat.shiftLeft_eq, Nat.shiftRight_eq_div_pow]
  have ha : (BitVec.allOnes 64).toNat = 2 ^ 64 - 1 := by decide
  have h1' : (1#64).toNat = 1 := by decide
  have e : ((64 : Int) - (n : Int)).toNat = 64 - n := by omega
  rw [ha, h1', e, Nat.one_mul, Nat.mod_eq_of_lt hp]
  have hq : 2 ^ 64 = 2 ^ n * 2 ^ (64 - n) := by rw [← Nat.pow_add]; congr 1; omega
  have hk : 0 < 2 ^ (64 - n) := Nat.pow_pos (by decide)
  have hdiv : (2 ^ 64 - 1) / 2 ^ (64 - n) = 2 ^ n - 1 := by
    rw [hq]
    have : 2 ^ n * 2 ^ (64 - n) - 1 = (2 ^ n - 1) * 2 ^ (64 - n) + (2 ^ (64 - n) - 1) := by
      rw [Nat.sub_mul, Nat.one_mul]
      have : 2 ^ (64 - n) ≤ 2 ^ n * 2 ^ (64 - n) := Nat.le_mul_of_pos_left _ h0
      omega
    rw [this, Nat.add_comm, Nat.add_mul_div_right _ _ hk, Nat.div_eq_of_lt (by omega)]
    omega
  rw [hdiv]
  omega

theorem all64 : allV 64 = BitVec.allOnes 64 := by decide

theorem and_all_fits (v : BitVec 64) (n : Nat) : (v &&& allV n) &&& ~~~ allV n = 0#64 := by
  apply BitVec.eq_of_getLsbD_eq
  intro i hi
  simp only [BitVec.getLsbD_and, BitVec.getLsbD_not, BitVec.getLsbD_zero, hi, decide_true, Bool.true_and]
  cases (allV n).getLsbD i <;> simp

theorem bit1 (x : BitVec 64) (i : Nat) : (x >>> i) &&& 1#64 = if x.getLsbD i then 1#64 else 0#64 := by
  apply BitVec.eq_of_getLsbD_eq
  intro j hj
  rw [BitVec.getLsbD_and, BitVec.getLsbD_ushiftRight]
  cases j with
  | zero => cases x.getLsbD i <;> simp
  | succ j =>
    have : (1#64).getLsbD (j + 1) = false := by
      rw [BitVec.getLsbD_ofNat]; simp [Nat.testBit_succ]
    rw [this]
    cases h : x.getLsbD i <;> simp [this]

end Go.Proofs.YtbhnbjaafejcjaaDoor


/- The document's way of telling and setting parts of words, bit by bit, comes to the same. No program in sight. -/
import Derived.Test.YtbohkamhcdnmbaaPl1
set_option linter.unusedVariables false
namespace Go.Proofs.Ytbohkamhcdnmbaa

/-- What is told when the bits from j on have been. -/
def goneV (w : BitVec 64) (p n j : Nat) : BitVec 64 := if j < n then getV w ((p + j : Nat) : Int) ((n - j : Nat) : Int) else 0#64

theorem bit_gone (w : BitVec 64) (p n j : Nat) (h2 : p + n ≤ 64) (i : Nat) (hi : i < 64) : (goneV w p n j).getLsbD i = (decide (j + i < n) && w.getLsbD (p + j + i)) := by
  unfold goneV
  by_cases hj : j < n
  · rw [if_pos hj, bit_get w (p + j) (n - j) (by omega) (by omega) i hi]
    congr 1
    rw [decide_eq_decide]; omega
  · rw [if_neg hj]
    have : ¬ j + i < n := by omega
    simp [this]

theorem bit_twice (x y : BitVec 64) (i : Nat) (hi : i < 64) : (2#64 * x + y % 2#64).getLsbD i = if i = 0 then y.getLsbD 0 else x.getLsbD (i - 1) := by
  have e1 : 2#64 * x = x <<< 1 := by
    apply BitVec.eq_of_toNat_eq
    rw [BitVec.toNat_mul, BitVec.toNat_shiftLeft, Nat.shiftLeft_eq, Nat.mul_comm]; rfl
  have e2 : y % 2#64 = y &&& 1#64 := by
    apply BitVec.eq_of_toNat_eq
    rw [BitVec.toNat_umod, BitVec.toNat_and]
    have : (1#64).toNat = 2 ^ 1 - 1 := by decide
    rw [this, Nat.and_two_pow_sub_one_eq_mod]; rfl
  have hone : ∀ j, j ≠ 0 → (1#64).getLsbD j = false := fun j hj => by
    cases j with
    | zero => exact absurd rfl hj
    | succ j => rw [BitVec.getLsbD_ofNat]; simp [Nat.testBit_succ]
  rw [e1, e2, BitVec.add_eq_or_of_and_eq_zero]
  · rw [BitVec.getLsbD_or, BitVec.getLsbD_shiftLeft, BitVec.getLsbD_and]
    by_cases h0 : i = 0
    · subst h0; simp
    · rw [hone i h0, if_neg h0]
      have : ¬ i < 1 := by omega
      simp [hi, this]
  · apply BitVec.eq_of_getLsbD_eq
    intro j hj
    rw [BitVec.getLsbD_and, BitVec.getLsbD_shiftLeft, BitVec.getLsbD_and, BitVec.getLsbD_zero]
    by_cases h0 : j = 0
    · subst h0; simp
    · rw [hone j h0]; simp

theorem gone_step (w : BitVec 64) (p n j : Nat) (h2 : p + n ≤ 64) (hj : j < n) : 2#64 * goneV w p n (j + 1) + (w >>> (p + j)) % 2#64 = goneV w p n j := by
  apply BitVec.eq_of_getLsbD_eq
  intro i hi
  rw [bit_twice _ _ i hi, bit_gone w p n j h2 i hi]
  by_cases h0 : i = 0
  · subst h0
    rw [if_pos rfl, BitVec.getLsbD_ushiftRight]
    simp [hj]
  · rw [if_neg h0, bit_gone w p n (j + 1) h2 (i - 1) (by omega)]
    rw [show p + (j + 1) + (i - 1) = p + j + i by omega, show j + 1 + (i - 1) = j + i by omega]

theorem gone_all (w : BitVec 64) (p n : Nat) (h1 : 1 ≤ n) : goneV w p n 0 = getV w p n := by
  unfold goneV; rw [if_pos (by omega)]; rfl

/-- What is set when i of n bits have been. -/
def putV (w v : BitVec 64) (p i : Nat) : BitVec 64 := setV w p i (v &&& allV i)

theorem bit_put (w v : BitVec 64) (p i : Nat) (hi : i ≤ 64) (k : Nat) (hk : k < 64) : (putV w v p i).getLsbD k = if p ≤ k ∧ k < p + i then v.getLsbD (k - p) else w.getLsbD k := by
  unfold putV
  rw [bit_set w _ p i hi (and_all_fits v i) k hk]
  by_cases h : p ≤ k ∧ k < p + i
  · rw [if_pos h, if_pos h, BitVec.getLsbD_and, bit_all i hi _ (by omega)]
    have : k - p < i := by omega
    simp [this]
  · rw [if_neg h, if_neg h]

theorem put_zero (w v : BitVec 64) (p : Nat) : putV w v p 0 = w := by
  apply BitVec.eq_of_getLsbD_eq
  intro k hk
  rw [bit_put w v p 0 (by omega) k hk, if_neg (by omega)]

theorem bit_one (k j : Nat) (hj : j < 64) : (1#64 <<< k).getLsbD j = decide (j = k) := by
  rw [BitVec.getLsbD_shiftLeft]
  by_cases h : j = k
  · subst h; simp [hj]
  · by_cases h2 : j < k
    · simp [h, h2]
    · have : (1#64).getLsbD (j - k) = false := by
        obtain ⟨m, hm⟩ : ∃ m, j - k = m + 1 := ⟨j - k - 1, by omega⟩
        rw [hm, BitVec.getLsbD_ofNat]; simp [Nat.testBit_succ]
      simp [h, this]

theorem put_step (w v : BitVec 64) (p i : Nat) (hi : p + i < 64) (b : Bool) (hb : v.getLsbD i = b) :
    (if b then (putV w v p i &&& ~~~ (1#64 <<< (p + i))) ||| (1#64 <<< (p + i)) else putV w v p i &&& ~~~ (1#64 <<< (p + i))) = putV w v p (i + 1) := by
  apply BitVec.eq_of_getLsbD_eq
  intro k hk
  rw [bit_put w v p (i + 1) (by omega) k hk]
  have key : (putV w v p i &&& ~~~ (1#64 <<< (p + i))).getLsbD k = (decide (k ≠ p + i) && if p ≤ k ∧ k < p + i then v.getLsbD (k - p) else w.getLsbD k) := by
    rw [BitVec.getLsbD_and, BitVec.getLsbD_not, bit_one _ _ hk, bit_put w v p i (by omega) k hk]
    simp [hk, Bool.and_comm]
  by_cases h : k = p + i
  · subst h
    have e0 : (if p ≤ p + i ∧ p + i < p + (i + 1) then v.getLsbD (p + i - p) else w.getLsbD (p + i)) = b := by
      rw [if_pos (by omega), show p + i - p = i by omega, hb]
    rw [e0]
    cases b
    · rw [if_neg (by decide), key]; simp
    · rw [if_pos rfl, BitVec.getLsbD_or, bit_one _ _ hk]; simp
  · have e : (if p ≤ k ∧ k < p + (i + 1) then v.getLsbD (k - p) else w.getLsbD k) = if p ≤ k ∧ k < p + i then v.getLsbD (k - p) else w.getLsbD k := by
      by_cases h2 : p ≤ k ∧ k < p + i
      · rw [if_pos h2, if_pos (by omega)]
      · rw [if_neg h2, if_neg (by omega)]
    rw [e]
    cases b
    · rw [if_neg (by decide), key]; simp [h]
    · rw [if_pos rfl, BitVec.getLsbD_or, bit_one _ _ hk, key]; simp [h]

theorem put_all (w v : BitVec 64) (p n : Nat) (hn : n ≤ 64) (hf : (v &&& ~~~ allV n) = 0#64) : putV w v p n = setV w p n v := by
  apply BitVec.eq_of_getLsbD_eq
  intro k hk
  rw [bit_put w v p n hn k hk, bit_set w v p n hn hf k hk]

theorem fits_shift (v : BitVec 64) (n : Nat) (hn : n ≤ 64) : (v >>> n = 0#64) ↔ (v &&& ~~~ allV n) = 0#64 := by
  constructor
  · intro h
    refine fits_of_bits hn fun i hi => ?_
    have := congrArg (fun z => z.getLsbD (i - n)) h
    simp only [BitVec.getLsbD_ushiftRight, BitVec.getLsbD_zero] at this
    rwa [show n + (i - n) = i by omega] at this
  · intro h
    apply BitVec.eq_of_getLsbD_eq
    intro i hi
    rw [BitVec.getLsbD_ushiftRight, fits_bit hn h _ (by omega), BitVec.getLsbD_zero]

theorem bit_rem (v : BitVec 64) (i : Nat) : ((v >>> i) % 2#64 == 1#64) = v.getLsbD i := by
  have e2 : (v >>> i) % 2#64 = (v >>> i) &&& 1#64 := by
    apply BitVec.eq_of_toNat_eq
    rw [BitVec.toNat_umod, BitVec.toNat_and]
    have : (1#64).toNat = 2 ^ 1 - 1 := by decide
    rw [this, Nat.and_two_pow_sub_one_eq_mod]; rfl
  rw [e2, bit1]
  cases v.getLsbD i <;> decide

end Go.Proofs.Ytbohkamhcdnmbaa

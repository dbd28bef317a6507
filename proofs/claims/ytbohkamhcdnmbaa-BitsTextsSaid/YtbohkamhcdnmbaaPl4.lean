/- A word out of eight bytes, from its highest byte or from its lowest: the same. No program in sight. -/
import Derived.Test.YtbohkamhcdnmbaaB2
set_option linter.unusedVariables false
namespace Go.Proofs.Ytbohkamhcdnmbaa

/-- The word that has been put together when m bytes, from the eighth down, have been taken. -/
def downV (f : Nat → UInt8) : Nat → BitVec 64
  | 0 => 0#64
  | m + 1 => 256#64 * downV f m + BitVec.ofNat 64 (f (7 - m)).toNat

theorem bit_byte (b : UInt8) (t : Nat) (ht : t < 64) : (BitVec.ofNat 64 b.toNat).getLsbD t = b.toNat.testBit t := by
  rw [BitVec.getLsbD_ofNat]; simp [ht]

theorem byte_hi (b : UInt8) (t : Nat) (ht : 8 ≤ t) : b.toNat.testBit t = false := by
  apply Nat.testBit_lt_two_pow
  have h1 : b.toNat < 2 ^ 8 := b.toNat_lt
  have h2 : 2 ^ 8 ≤ 2 ^ t := Nat.pow_le_pow_right (by decide) ht
  omega

theorem bit_256 (x : BitVec 64) (b : UInt8) (t : Nat) (ht : t < 64) : (256#64 * x + BitVec.ofNat 64 b.toNat).getLsbD t = if t < 8 then b.toNat.testBit t else x.getLsbD (t - 8) := by
  have e1 : 256#64 * x = x <<< 8 := by
    apply BitVec.eq_of_toNat_eq
    rw [BitVec.toNat_mul, BitVec.toNat_shiftLeft, Nat.shiftLeft_eq, Nat.mul_comm]; rfl
  rw [e1, BitVec.add_eq_or_of_and_eq_zero]
  · rw [BitVec.getLsbD_or, BitVec.getLsbD_shiftLeft, bit_byte b t ht]
    by_cases h : t < 8
    · simp [h]
    · rw [byte_hi b t (by omega)]; simp [h, ht]
  · apply BitVec.eq_of_getLsbD_eq
    intro j hj
    rw [BitVec.getLsbD_and, BitVec.getLsbD_shiftLeft, bit_byte b j hj, BitVec.getLsbD_zero]
    by_cases h : j < 8
    · simp [h]
    · rw [byte_hi b j (by omega)]; simp

theorem bit_down (f : Nat → UInt8) : ∀ (m : Nat), m ≤ 8 → ∀ t, t < 64 → (downV f m).getLsbD t = (decide (t < 8 * m) && (f (8 - m + t / 8)).toNat.testBit (t % 8))
  | 0, _, t, _ => by simp [downV]
  | m + 1, hm, t, ht => by
    rw [downV, bit_256 _ _ t ht]
    by_cases h : t < 8
    · have h1 : t < 8 * (m + 1) := by omega
      rw [if_pos h, show 8 - (m + 1) + t / 8 = 7 - m by omega, show t % 8 = t by omega]
      simp [h1]
    · rw [if_neg h, bit_down f m (by omega) (t - 8) (by omega), show 8 - m + (t - 8) / 8 = 8 - (m + 1) + t / 8 by omega, show (t - 8) % 8 = t % 8 by omega]
      congr 1
      rw [decide_eq_decide]; omega

theorem bit_le (l : List UInt8) : ∀ (k : Nat), k ≤ 8 → ∀ t, t < 64 → (leV l k).getLsbD t = (decide (t < 8 * k) && (l.getD (t / 8) 0).toNat.testBit (t % 8))
  | 0, _, t, _ => by simp [leV]
  | k + 1, hk, t, ht => by
    rw [leV, BitVec.getLsbD_or, bit_le l k (by omega) t ht, BitVec.getLsbD_shiftLeft]
    by_cases h1 : t < 8 * k
    · have h2 : t < 8 * (k + 1) := by omega
      simp [h1, h2]
    · by_cases h2 : t < 8 * (k + 1)
      · have e1 : t / 8 = k := by omega
        have e2 : t % 8 = t - 8 * k := by omega
        rw [bit_byte _ _ (by omega), e1, e2]
        simp [h1, h2, ht]
      · rw [bit_byte _ (t - 8 * k) (by omega), byte_hi _ (t - 8 * k) (by omega)]
        simp [h1, h2]

theorem down_word (l : List UInt8) (i : Nat) (hi : (i : Int) < countV l.length) : downV (fun k => l.getD (8 * i + k) 0) 8 = wordV l i := by
  rw [wordV_in l i _ hi rfl]
  apply BitVec.eq_of_getLsbD_eq
  intro t ht
  rw [bit_down _ 8 (by omega) t ht, bit_le _ _ (by omega) t ht]
  have e : (l.drop (8 * i)).getD (t / 8) 0 = l.getD (8 * i + t / 8) 0 := by simp [List.getD]
  rw [e, show 8 - 8 + t / 8 = t / 8 by omega]
  by_cases h : t < 8 * min 8 (l.length - 8 * i)
  · have : t < 8 * 8 := by omega
    simp [h, this]
  · have h2 : l.length ≤ 8 * i + t / 8 := by omega
    have h3 : l.getD (8 * i + t / 8) 0 = 0 := by
      rw [List.getD_eq_getElem?_getD, List.getElem?_eq_none h2]; rfl
    rw [h3]
    simp [h]

end Go.Proofs.Ytbohkamhcdnmbaa

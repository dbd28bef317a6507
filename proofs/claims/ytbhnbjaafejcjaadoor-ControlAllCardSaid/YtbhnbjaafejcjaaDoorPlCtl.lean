/- control's words as numbers: plain laws. -/
import Derived.Test.YtbhnbjaafejcjaaDoorPack
set_option linter.unusedVariables false
namespace Go.Proofs.YtbhnbjaafejcjaaDoor
open Go.RowKit

theorem lt_of_high {v : BitVec 64} {n : Nat} (h : ∀ i, n ≤ i → v.getLsbD i = false) : v.toNat < 2 ^ n :=
  Nat.lt_pow_two_of_testBit _ fun i hi => by have := h i hi; simpa [BitVec.getLsbD] using this

theorem high_of_lt {v : BitVec 64} {n : Nat} (h : v.toNat < 2 ^ n) (i : Nat) (hi : n ≤ i) : v.getLsbD i = false := by
  rw [BitVec.getLsbD]
  exact Nat.testBit_lt_two_pow (Nat.lt_of_lt_of_le h (Nat.pow_le_pow_right (by omega) hi))

theorem fits_lt {n : Nat} (hn : n ≤ 64) (v : BitVec 64) : (v &&& ~~~ allV n) = 0#64 ↔ v.toNat < 2 ^ n :=
  ⟨fun h => lt_of_high (fits_bit hn h), fun h => fits_of_bits hn (high_of_lt h)⟩

theorem setV_add (x v : BitVec 64) (p n : Nat) (hpn : p + n ≤ 64) (hx : x.toNat < 2 ^ p) (hv : v.toNat < 2 ^ n) : (setV x p n v).toNat = x.toNat + 2 ^ p * v.toNat := by
  have hlt : x.toNat + 2 ^ p * v.toNat < 2 ^ 64 := by
    have : 2 ^ p * v.toNat ≤ 2 ^ p * (2 ^ n - 1) := Nat.mul_le_mul_left _ (by omega)
    have h2 : 2 ^ p * 2 ^ n ≤ 2 ^ 64 := by rw [← Nat.pow_add]; exact Nat.pow_le_pow_right (by omega) hpn
    have h3 : 2 ^ p * (2 ^ n - 1) = 2 ^ p * 2 ^ n - 2 ^ p := by rw [Nat.mul_sub, Nat.mul_one]
    omega
  have : setV x p n v = BitVec.ofNat 64 (x.toNat + 2 ^ p * v.toNat) := by
    apply BitVec.eq_of_getLsbD_eq
    intro i hi
    rw [bit_set x v p n (by omega) ((fits_lt (by omega) v).2 hv) i hi, Nat.add_comm x.toNat, Nat.two_pow_add_eq_or_of_lt hx]
    simp only [BitVec.getLsbD_ofNat, hi, decide_true, Bool.true_and, Nat.testBit_or, Nat.testBit_two_pow_mul]
    by_cases h1 : p ≤ i
    · have hz : x.toNat.testBit i = false := Nat.testBit_lt_two_pow (Nat.lt_of_lt_of_le hx (Nat.pow_le_pow_right (by omega) h1))
      by_cases h2 : i < p + n
      · simp [h1, h2, hz, BitVec.getLsbD]
      · have hz2 : v.toNat.testBit (i - p) = false := Nat.testBit_lt_two_pow (Nat.lt_of_lt_of_le hv (Nat.pow_le_pow_right (by omega) (by omega)))
        simp [h1, h2, hz, hz2, BitVec.getLsbD]
    · simp [h1, BitVec.getLsbD]
  rw [this, BitVec.toNat_ofNat, Nat.mod_eq_of_lt hlt]

theorem getV_nat (w : BitVec 64) (p n : Nat) (h1 : 1 ≤ n) (h2 : p + n ≤ 64) : (getV w p n).toNat = w.toNat / 2 ^ p % 2 ^ n := by
  have hlt : w.toNat / 2 ^ p % 2 ^ n < 2 ^ 64 := Nat.lt_of_lt_of_le (Nat.mod_lt _ (Nat.two_pow_pos n)) (Nat.pow_le_pow_right (by omega) (by omega))
  have : getV w p n = BitVec.ofNat 64 (w.toNat / 2 ^ p % 2 ^ n) := by
    apply BitVec.eq_of_getLsbD_eq
    intro i hi
    rw [bit_get w p n h1 h2 i hi]
    simp only [BitVec.getLsbD_ofNat, hi, decide_true, Bool.true_and, Nat.testBit_mod_two_pow, Nat.testBit_div_two_pow]
    rw [Nat.add_comm p i, BitVec.getLsbD]
  rw [this, BitVec.toNat_ofNat, Nat.mod_eq_of_lt hlt]

theorem ofInt_lt {m : Int} (hm : -9223372036854775808 ≤ m ∧ m ≤ 9223372036854775807) (n : Nat) (hn : n ≤ 31) : (BitVec.ofInt 64 m).toNat < 2 ^ n ↔ 0 ≤ m ∧ m < 2 ^ n := by
  have h2 : (2 : Nat) ^ n ≤ 2 ^ 31 := Nat.pow_le_pow_right (by omega) hn
  have h3 : ((2 : Int) ^ n) = ((2 ^ n : Nat) : Int) := by simp
  rw [BitVec.toNat_ofInt, h3]
  generalize 2 ^ n = q at *
  omega

def ctlFits (e g b : Int) : Bool := decide (0 ≤ e ∧ e ≤ 32767 ∧ 0 ≤ g ∧ g ≤ 2147483647 ∧ 0 ≤ b ∧ b ≤ 65535)
def ctlN (e g b : Int) (l u : Bool) : Nat := b.toNat + 65536 * g.toNat + 140737488355328 * (b01 u).toNat + 281474976710656 * (b01 l).toNat + 562949953421312 * e.toNat

theorem setOk_lt (p n : Nat) (h1 : 1 ≤ n) (h2 : p + n ≤ 64) (v : BitVec 64) : setOk p n v = decide (v.toNat < 2 ^ n) := by
  by_cases h : v.toNat < 2 ^ n
  · rw [setOk_of p n h1 h2 v ((fits_lt (by omega) v).2 h)]; simp [h]
  · have : ¬ (v &&& ~~~ allV n) = 0#64 := fun h' => h ((fits_lt (by omega) v).1 h')
    simp [setOk, this, h]

theorem partS0 : partS 0 = ((16 : Nat) : Int) := rfl
theorem partS1 : partS 1 = ((31 : Nat) : Int) := rfl
theorem partS2 : partS 2 = ((1 : Nat) : Int) := rfl
theorem partS3 : partS 3 = ((1 : Nat) : Int) := rfl
theorem partS4 : partS 4 = ((15 : Nat) : Int) := rfl

theorem b01_bd (b : Bool) : 0 ≤ b01 b ∧ b01 b ≤ 1 := by cases b <;> decide

theorem packS_ok (e g b : Int) (l u : Bool) (he : -9223372036854775808 ≤ e ∧ e ≤ 9223372036854775807) (hg : -9223372036854775808 ≤ g ∧ g ≤ 9223372036854775807) (hb : -9223372036854775808 ≤ b ∧ b ≤ 9223372036854775807) :
    (packS (fun j => (partN e g b l u j, partS j)) 5).2.2 = ctlFits e g b := by
  have hl := b01_bd l
  have hu := b01_bd u
  show (((((true && setOk ((0 : Nat) : Int) ((16 : Nat) : Int) (BitVec.ofInt 64 b)) && setOk ((16 : Nat) : Int) ((31 : Nat) : Int) (BitVec.ofInt 64 g)) && setOk ((47 : Nat) : Int) ((1 : Nat) : Int) (BitVec.ofInt 64 (b01 u))) && setOk ((48 : Nat) : Int) ((1 : Nat) : Int) (BitVec.ofInt 64 (b01 l))) && setOk ((49 : Nat) : Int) ((15 : Nat) : Int) (BitVec.ofInt 64 e)) = ctlFits e g b
  rw [setOk_lt _ _ (by omega) (by omega), setOk_lt _ _ (by omega) (by omega), setOk_lt _ _ (by omega) (by omega), setOk_lt _ _ (by omega) (by omega), setOk_lt _ _ (by omega) (by omega)]
  simp only [ofInt_lt hb 16 (by omega), ofInt_lt hg 31 (by omega), ofInt_lt he 15 (by omega), ofInt_lt (show -9223372036854775808 ≤ b01 u ∧ b01 u ≤ 9223372036854775807 by omega) 1 (by omega), ofInt_lt (show -9223372036854775808 ≤ b01 l ∧ b01 l ≤ 9223372036854775807 by omega) 1 (by omega), ctlFits, Bool.true_and]
  rw [Bool.eq_iff_iff]
  simp only [Bool.and_eq_true, decide_eq_true_eq]
  omega

theorem packS_word (e g b : Int) (l u : Bool) (h : ctlFits e g b = true) :
    (packS (fun j => (partN e g b l u j, partS j)) 5).1 = BitVec.ofNat 64 (ctlN e g b l u) := by
  have hl := b01_bd l
  have hu := b01_bd u
  have h' : 0 ≤ e ∧ e ≤ 32767 ∧ 0 ≤ g ∧ g ≤ 2147483647 ∧ 0 ≤ b ∧ b ≤ 65535 := of_decide_eq_true h
  have st : ∀ (x : BitVec 64) (p n : Nat) (m : Int), 1 ≤ n → n ≤ 31 → p + n ≤ 64 → x.toNat < 2 ^ p → 0 ≤ m → m < 2 ^ n → m ≤ 2147483647 → (stepX x p n (BitVec.ofInt 64 m)).toNat = x.toNat + 2 ^ p * m.toNat := by
    intro x p n m h1 h2 h3 h4 h5 h6 h7
    have hv := (ofInt_lt (m := m) (by omega) n h2).2 ⟨h5, h6⟩
    rw [stepX, setOk_lt p n h1 h3, if_pos (by simpa using hv), setV_add x _ p n h3 h4 hv, BitVec.toNat_ofInt]
    congr 2
    omega
  apply BitVec.eq_of_toNat_eq
  show (stepX (stepX (stepX (stepX (stepX 0#64 ((0 : Nat) : Int) ((16 : Nat) : Int) (BitVec.ofInt 64 b)) ((16 : Nat) : Int) ((31 : Nat) : Int) (BitVec.ofInt 64 g)) ((47 : Nat) : Int) ((1 : Nat) : Int) (BitVec.ofInt 64 (b01 u))) ((48 : Nat) : Int) ((1 : Nat) : Int) (BitVec.ofInt 64 (b01 l))) ((49 : Nat) : Int) ((15 : Nat) : Int) (BitVec.ofInt 64 e)).toNat = _
  have s1 := st 0#64 0 16 b (by omega) (by omega) (by omega) (by simp) (by omega) (by omega) (by omega)
  have s2 := st _ 16 31 g (by omega) (by omega) (by omega) (by rw [s1]; simp; omega) (by omega) (by omega) (by omega)
  have s3 := st _ 47 1 (b01 u) (by omega) (by omega) (by omega) (by rw [s2, s1]; simp; omega) (by omega) (by omega) (by omega)
  have s4 := st _ 48 1 (b01 l) (by omega) (by omega) (by omega) (by rw [s3, s2, s1]; simp; omega) (by omega) (by omega) (by omega)
  have s5 := st _ 49 15 e (by omega) (by omega) (by omega) (by rw [s4, s3, s2, s1]; simp; omega) (by omega) (by omega) (by omega)
  rw [s5, s4, s3, s2, s1, BitVec.toNat_ofNat, ctlN]
  simp
  omega
end Go.Proofs.YtbhnbjaafejcjaaDoor


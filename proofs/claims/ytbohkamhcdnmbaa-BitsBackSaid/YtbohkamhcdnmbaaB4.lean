import Derived.Test.YtbohkamhcdnmbaaRows
import Derived.Test.YtbohkamhcdnmbaaB3
import Derived.Deep.QuietTactic
import Derived.BigQuiet
set_option linter.unusedVariables false
namespace Go.Proofs.Ytbohkamhcdnmbaa
open Go.RowKit

def exText : ByteArray := ⟨#[97, 98, 99, 100, 101, 102, 103, 104, 105]⟩
theorem ex_count : countV exText.size = 2 := by decide +kernel
theorem ex_words : wordsV exText.data.toList = [7523094288207667809#64, 105#64] := by decide +kernel
theorem ex_set : setOk 4 8 255#64 = true := by decide +kernel
theorem ex_setV : setV 0#64 4 8 255#64 = 4080#64 := by decide +kernel

set_option maxHeartbeats 400000 in
theorem awake_any (w : World) : Calls Try.prog 10 #[] w fun e w' => e = .returned (.bool true) ∧ Below w.heap.size w w' := by
  go_enter Try.func10, Try.ntmps10
  go_wp2_with fail
  refine (set_any 0#64 255#64 4 8 _ (by omega)).mono ?_
  rw [ex_set, ex_setV]
  rintro e w' ⟨rfl, k, rfl⟩
  go_wp2_with fail
  have hb0 := below_drewN w.heap.size w k
  generalize w.drewN k = w1 at *
  refine (words_any exText _ (by decide +kernel)).mono ?_
  rintro e w2 ⟨v, rfl, hb, hr⟩
  rw [ex_count, ex_words] at hr
  obtain ⟨b, off, cap, rfl, hc1, hc2, hlt, hcell⟩ := hr.cons (by decide)
  have c0 : w2.cell? ⟨b, off, none⟩ = some (U 7523094288207667809#64) := by simpa using hcell 0 (by decide)
  have c1 : w2.cell? ⟨b, off + 1, none⟩ = some (U 105#64) := by simpa using hcell 1 (by decide)
  have hfin := hid (hb0.trans (hb.mono hb0.size))
  clear hb0 hb hcell hr
  go_wp2
  go_ret
  exact ⟨rfl, hfin.out⟩


/-! ### Mixing is undone -/
theorem unxor (x : BitVec 64) (k : Nat) (h : 64 ≤ 3 * k) : (x ^^^ x >>> k) ^^^ (x ^^^ x >>> k) >>> k ^^^ (x ^^^ x >>> k) >>> (2 * k) = x := by
  apply BitVec.eq_of_getLsbD_eq
  intro i hi
  simp only [BitVec.getLsbD_xor, BitVec.getLsbD_ushiftRight]
  have h3 : x.getLsbD (k + (2 * k + i)) = false := BitVec.getLsbD_of_ge _ _ (by omega)
  rw [h3, show k + (k + i) = 2 * k + i by omega]
  cases x.getLsbD i <;> cases x.getLsbD (k + i) <;> cases x.getLsbD (2 * k + i) <;> rfl

def unmixV (z : BitVec 64) : BitVec 64 :=
  let a := (z ^^^ z >>> 31 ^^^ z >>> 62) * 0x319642b2d24d8ec3#64
  let b := (a ^^^ a >>> 27 ^^^ a >>> 54) * 0x96de1b173f119089#64
  b ^^^ b >>> 30 ^^^ b >>> 60

theorem unmix_mix (x : BitVec 64) : unmixV (mixV x) = x := by
  unfold unmixV mixV
  have m1 : ∀ y : BitVec 64, y * 0x94d049bb133111eb#64 * 0x319642b2d24d8ec3#64 = y := fun y => by
    rw [BitVec.mul_assoc, show 0x94d049bb133111eb#64 * 0x319642b2d24d8ec3#64 = 1#64 by decide, BitVec.mul_one]
  have m2 : ∀ y : BitVec 64, y * 0xbf58476d1ce4e5b9#64 * 0x96de1b173f119089#64 = y := fun y => by
    rw [BitVec.mul_assoc, show 0xbf58476d1ce4e5b9#64 * 0x96de1b173f119089#64 = 1#64 by decide, BitVec.mul_one]
  simp only [unxor _ 31 (by decide), m1]
  rw [unxor _ 27 (by decide), m2, unxor _ 30 (by decide)]

theorem mix_ne (x : BitVec 64) (i : Nat) (h0 : 0 < i) (h1 : i < 18446744073709551616) : (mixV (x + BitVec.ofNat 64 i) == mixV x) = false := by
  rw [beq_eq_false_iff_ne]
  intro h
  have h2 := congrArg unmixV h
  rw [unmix_mix, unmix_mix] at h2
  have h3 : BitVec.ofNat 64 i = 0#64 := by
    have := congrArg (fun z => z - x) h2
    simp only [BitVec.sub_self, BitVec.add_comm x, BitVec.add_sub_cancel] at this
    exact this
  have := congrArg BitVec.toNat h3
  simp at this
  omega

theorem tmod_bd (m k : Int) (h : 0 < k) : -k < m.tmod k ∧ m.tmod k < k := by
  refine ⟨?_, Int.tmod_lt_of_pos m h⟩
  rcases Int.le_total 0 m with h1 | h1
  · have := Int.tmod_nonneg k h1; omega
  · have h2 := Int.tmod_lt_of_pos (-m) h
    rw [Int.neg_tmod] at h2; omega

theorem mix0 : mixV 0#64 = 0#64 := by decide +kernel

set_option maxHeartbeats 800000 in
theorem law_BitsMix (x : BitVec 64) (many : Int) (w : World) :
    Calls Try.prog 3 #[U x, .int .i64 many] w fun e w' => e = .returned (.bool true) ∧ Below w.heap.size w w' := by
  have ht := tmod_bd many 20 (by decide)
  go_enter Try.func3, Try.ntmps3
  go_wp2_with fail
  refine (awake_any _).mono ?_
  rintro e w1 ⟨rfl, hb⟩
  have Hb := hid hb
  clear hb
  go_wp2_with fail
  ((with_reducible refine (mix_any _ _).mono ?_); rintro e w' ⟨rfl, rfl⟩)
  go_wp2_with fail
  obtain ⟨n, hn⟩ := Int.eq_ofNat_of_zero_le (show 0 ≤ 1 + many.tmod 20 % 20 by omega)
  have hn1 : 1 ≤ n := by omega
  have hn2 : n ≤ 20 := by omega
  rw [hn]
  clear hn
  go_loop [8] (fun i => ∃ k : Nat, 1 ≤ k ∧ k ≤ n + 1 ∧ i = .int .i64 k) (fun i => n + 1 - (intOf i).toNat)
  case atStart => exact ⟨1, by omega, by omega, rfl⟩
  case round =>
    obtain ⟨k, hk1, hk2, rfl⟩ := hrel
    by_cases h1 : k ≤ n
    · have hne := mix_ne x k (by omega) (by omega)
      go_wp2_with fail
      ((with_reducible refine (mix_any _ _).mono ?_); rintro e w' ⟨rfl, rfl⟩)
      go_wp2
      go_round
      case rel => exact ⟨k + 1, by omega, by omega, by go_num⟩
      case measure => simp [intOf]; omega
    · go_wp2_with fail
      refine (mix_any 0#64 _).mono ?_
      rw [mix0]
      rintro e w' ⟨rfl, rfl⟩
      go_wp2_with fail
      ((with_reducible refine (rmix_any _ _).mono ?_); rintro e w' ⟨rfl, rfl⟩)
      go_wp2
      go_ret
      exact ⟨rfl, Hb.out⟩

end Go.Proofs.Ytbohkamhcdnmbaa

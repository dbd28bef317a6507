/- Texts of one digit. -/
import Derived.Test.YtppdbadigecegaaCText
import Derived.Laws.Strings
set_option linter.unusedVariables false
set_option linter.unusedSimpArgs false
namespace Go.Proofs.Ytppdbadigecegaa
section SCTxV
open Go.RowKit

def dig10 : ByteArray := ⟨#[48, 49, 50, 51, 52, 53, 54, 55, 56, 57]⟩
def sErr : ByteArray := ⟨#[105, 110, 116, 97, 103, 108, 105, 111, 58, 32, 101, 114, 114, 111, 114, 32]⟩
/-- A code of one digit. -/
theorem errS_digit : ∀ c : Nat, c < 10 → sErr ++ dig10.extract c (c + 1) = errS (c : Int)
  | 0, _ => by kernel_rfl
  | 1, _ => by kernel_rfl
  | 2, _ => by kernel_rfl
  | 3, _ => by kernel_rfl
  | 4, _ => by kernel_rfl
  | 5, _ => by kernel_rfl
  | 6, _ => by kernel_rfl
  | 7, _ => by kernel_rfl
  | 8, _ => by kernel_rfl
  | 9, _ => by kernel_rfl
  | n + 10, h => absurd h (by omega)
theorem dig10_at : ∀ c : Nat, c < 10 → dig10.extract c (c + 1) = ⟨#[UInt8.ofNat (48 + c)]⟩
  | 0, _ => by kernel_rfl
  | 1, _ => by kernel_rfl
  | 2, _ => by kernel_rfl
  | 3, _ => by kernel_rfl
  | 4, _ => by kernel_rfl
  | 5, _ => by kernel_rfl
  | 6, _ => by kernel_rfl
  | 7, _ => by kernel_rfl
  | 8, _ => by kernel_rfl
  | 9, _ => by kernel_rfl
  | n + 10, h => absurd h (by omega)
theorem numS_digit (T : Nat → Int) (n : Nat) (h : n < 10) : numS T (n : Int) = dig10.extract n (n + 1) := by
  rw [dig10_at n h, numS, itoaT, if_pos (by omega), show ((n : Int)).toNat = n by omega, Lib.decDigits, dif_pos h]
theorem textL_pos (T : Nat → Int) : ∀ (L : List (Bool × Int)), L ≠ [] → 0 < (textL T L).size
  | [], h => absurd rfl h
  | (b, x) :: rest, _ => by
    have he : ∀ c, 16 ≤ (errS c).size := fun c => by
      unfold errS
      rw [ByteArray.size_append, ByteArray.size_append]
      have : (⟨#[105, 110, 116, 97, 103, 108, 105, 111, 58, 32, 101, 114, 114, 111, 114, 32]⟩ : ByteArray).size = 16 := rfl
      omega
    rw [textL]
    split
    · rw [ByteArray.size_append, ByteArray.size_append, ByteArray.size_append, show sWord.size = 5 from rfl]; omega
    · have := he x
      split
      · omega
      · rw [ByteArray.size_append, ByteArray.size_append]; omega

theorem tmod_two (z : Int) (m : Nat) (hm : 0 < m) (hm2 : m < 100) : ∃ (A : Int) (d : Nat), Value.int .i64 (z.tmod m) = Value.int .i64 A ∧ (-100 ≤ A ∧ A ≤ 100) ∧ Value.int .i64 ((A + m).tmod m) = Value.int .i64 (d : Int) ∧ d < m := by
  obtain ⟨h0, h1⟩ : -(m : Int) < z.tmod m ∧ z.tmod m < m := by
    rcases Int.le_total 0 z with h | h
    · rw [Int.tmod_eq_emod_of_nonneg h]
      have := Int.emod_lt_of_pos z (show (0 : Int) < m by omega)
      have := Int.emod_nonneg z (show (m : Int) ≠ 0 by omega)
      omega
    · have e : z.tmod m = -((-z).tmod m) := by rw [Int.neg_tmod]; omega
      rw [e, Int.tmod_eq_emod_of_nonneg (by omega)]
      have := Int.emod_lt_of_pos (-z) (show (0 : Int) < m by omega)
      have := Int.emod_nonneg (-z) (show (m : Int) ≠ 0 by omega)
      omega
  generalize z.tmod m = A at *
  have g1 := Int.tmod_eq_emod_of_nonneg (show 0 ≤ A + m by omega) (b := (m : Int))
  have g2 := Int.emod_lt_of_pos (A + m) (show (0 : Int) < m by omega)
  have g3 := Int.emod_nonneg (A + m) (show (m : Int) ≠ 0 by omega)
  generalize (A + m) % (m : Int) = r at *
  exact ⟨A, r.toNat, rfl, ⟨by omega, by omega⟩, congrArg (Value.int .i64) (g1.trans (by omega)), by omega⟩
theorem code_arith (code : Int) : ∃ (A : Int) (d : Nat), Value.int .i64 (code.tmod 9) = Value.int .i64 A ∧ (-100 ≤ A ∧ A ≤ 100) ∧ Value.int .i64 ((A + 9).tmod 9) = Value.int .i64 (d : Int) ∧ d < 9 := tmod_two code 9 (by decide) (by decide)
theorem word_arith (word : Int) : ∃ (A : Int) (d : Nat), Value.int .i64 (word.tmod 10) = Value.int .i64 A ∧ (-100 ≤ A ∧ A ≤ 100) ∧ Value.int .i64 ((A + 10).tmod 10) = Value.int .i64 (d : Int) ∧ d < 10 := tmod_two word 10 (by decide) (by decide)
/-- What the walk wants of the code's digit. -/
theorem code_facts (d : Nat) (hd : d < 9) : ∃ (dc own : ByteArray), own = errS (1 + (d : Int)) ∧ dc.size = 1 ∧ (⟨#[48, 49, 50, 51, 52, 53, 54, 55, 56, 57]⟩ : ByteArray).extract (1 + d) (1 + d + 1) = dc ∧ (⟨#[105, 110, 116, 97, 103, 108, 105, 111, 58, 32, 101, 114, 114, 111, 114, 32]⟩ : ByteArray) ++ dc = own ∧ own.size ≤ 40 ∧ (1 + (d : Int)) ≠ 0 := by
  have h1 := errS_digit (1 + d) (by omega)
  have h2 := dig10_at (1 + d) (by omega)
  rw [show ((1 + d : Nat) : Int) = 1 + (d : Int) by omega] at h1
  exact ⟨dig10.extract (1 + d) (1 + d + 1), _, rfl, by rw [h2]; rfl, rfl, h1, errS_size _, by omega⟩
/-- .. and of the word's. -/
theorem word_facts (T : Nat → Int) (n : Nat) (hn : n < 10) : ∃ (dn : ByteArray), numS T (n : Int) = dn ∧ dn.size = 1 ∧ (⟨#[48, 49, 50, 51, 52, 53, 54, 55, 56, 57]⟩ : ByteArray).extract n (n + 1) = dn ∧ (-9223372036854775808 ≤ (n : Int) ∧ (n : Int) ≤ 9223372036854775807) := by
  have h2 := dig10_at n (by omega)
  exact ⟨dig10.extract n (n + 1), numS_digit T n hn, by rw [h2]; rfl, rfl, by omega, by omega⟩
end SCTxV

end Go.Proofs.Ytppdbadigecegaa


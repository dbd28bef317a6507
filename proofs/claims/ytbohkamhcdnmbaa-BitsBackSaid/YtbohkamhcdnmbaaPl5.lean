/- A text comes back from its words; not with one more bit behind its end. No program in sight. -/
import Derived.Test.YtbohkamhcdnmbaaPl4
import Derived.Test.YtbohkamhcdnmbaaPl3
import Derived.Test.YtbohkamhcdnmbaaB9
set_option linter.unusedVariables false
namespace Go.Proofs.Ytbohkamhcdnmbaa

theorem bit_by8 (x : BitVec 64) (t : Nat) : (by8 x).toNat.testBit t = (decide (t < 8) && x.getLsbD t) := by
  unfold by8
  rw [UInt8.toNat_ofNat', Nat.testBit_mod_two_pow, ← BitVec.testBit_toNat]

theorem u8_ext {a b : UInt8} (h : ∀ t, t < 8 → a.toNat.testBit t = b.toNat.testBit t) : a = b := by
  rw [← UInt8.toNat_inj]
  apply Nat.eq_of_testBit_eq
  intro t
  by_cases ht : t < 8
  · exact h t ht
  · rw [byte_hi a t (by omega), byte_hi b t (by omega)]

theorem wordsV_length (l : List UInt8) : (wordsV l).length = (countV l.length).toNat := by simp [wordsV]

theorem words_getD (l : List UInt8) (i : Nat) (hi : (i : Int) < countV l.length) : (wordsV l).getD i 0#64 = wordV l i := by
  have : i < (countV l.length).toNat := by omega
  simp [wordsV, List.getD, this]

theorem byteAt_words (l : List UInt8) (t : Nat) (ht : (t / 8 : Nat) < (countV l.length).toNat) : byteAt (wordsV l) t = l.getD t 0 := by
  apply u8_ext
  intro b hb
  unfold byteAt
  rw [words_getD l (t / 8) (by omega), bit_by8, BitVec.getLsbD_ushiftRight, wordV_in l (t / 8) _ (by omega) rfl]
  have h1 : 8 * (t % 8) + b < 64 := by omega
  rw [bit_le _ _ (by omega) _ h1]
  have e1 : (8 * (t % 8) + b) / 8 = t % 8 := by omega
  have e2 : (8 * (t % 8) + b) % 8 = b := by omega
  rw [e1, e2]
  have e3 : (l.drop (8 * (t / 8))).getD (t % 8) 0 = l.getD t 0 := by
    rw [List.getD_eq_getElem?_getD, List.getD_eq_getElem?_getD, List.getElem?_drop]
    congr 2; omega
  rw [e3]
  by_cases hlt : t < l.length
  · have : 8 * (t % 8) + b < 8 * min 8 (l.length - 8 * (t / 8)) := by omega
    simp [hb, this]
  · have : l.getD t 0 = 0 := by rw [List.getD_eq_getElem?_getD, List.getElem?_eq_none (by omega)]; rfl
    rw [this]
    simp

theorem count_cast (n : Nat) : ((countV n).toNat : Int) = countV n := Int.toNat_of_nonneg (count_le n (by omega)).1
theorem count_ge (n : Nat) : (n : Int) ≤ 8 * countV n := by unfold countV; split <;> omega

theorem words_text (l : List UInt8) : textOk (wordsV l) l.length = true ∧ textV (wordsV l) l.length = l := by
  have hlen : ((wordsV l).length : Int) = countV l.length := by rw [wordsV_length, count_cast]
  have hge := count_ge l.length
  obtain ⟨e1, e2⟩ := textOk_of (wordsV l) l.length hlen (fun t h1 h2 => by
    rw [byteAt_words l t (by rw [wordsV_length] at h2; omega), List.getD_eq_getElem?_getD, List.getElem?_eq_none h1]; rfl)
  refine ⟨e1, ?_⟩
  rw [e2]
  apply List.ext_getElem?
  intro i
  rw [List.getElem?_take]
  by_cases hi : i < l.length
  · rw [if_pos hi, bytesV_get _ _ (by omega), byteAt_words l i (by rw [← wordsV_length]; omega), List.getD_eq_getElem?_getD, List.getElem?_eq_getElem hi]; rfl
  · rw [if_neg hi, List.getElem?_eq_none (by omega)]

theorem text_len_no (ws : List (BitVec 64)) (n : Int) (h : n < 0 ∨ (ws.length : Int) ≠ countV n) : textOk ws n = false := by
  unfold textOk
  rcases h with h | h
  · have : decide (0 ≤ n) = false := by simp; omega
    rw [this]; rfl
  · have : decide ((ws.length : Int) = countV n) = false := by simpa using h
    rw [this]; simp

theorem words_more (l : List UInt8) : textOk (wordsV l ++ [0#64]) l.length = false :=
  text_len_no _ _ (.inr (by rw [List.length_append, wordsV_length]; have := count_cast l.length; simp; omega))

theorem words_less (l : List UInt8) : textOk (wordsV l) ((l.length : Int) - 8) = false := by
  apply text_len_no
  by_cases h : l.length < 8
  · exact .inl (by omega)
  · refine .inr ?_
    rw [wordsV_length, count_cast]
    unfold countV
    split <;> split <;> omega

theorem words_spoilt (l : List UInt8) (c k : Nat) (hc : countV l.length = c) (hk : k < 8 * (8 * c - l.length)) :
    textOk ((wordsV l).set (c - 1) ((wordsV l).getD (c - 1) 0#64 ||| 1#64 <<< (64 - 8 * (8 * c - l.length) + k))) l.length = false := by
  have hcl := (count_le l.length (by omega)).2
  have hge := count_ge l.length
  rw [hc] at hcl hge
  have hwl : (wordsV l).length = c := by rw [wordsV_length, hc]; omega
  generalize hp : 64 - 8 * (8 * c - l.length) + k = p
  have hp64 : p < 64 := by omega
  refine (textOk_not _ l.length (8 * (c - 1) + p / 8) (by omega) (by rw [List.length_set, hwl]; omega) ?_).1
  intro h0
  have h1 := congrArg (fun b : UInt8 => b.toNat.testBit (p % 8)) h0
  unfold byteAt at h1
  simp only [bit_by8, BitVec.getLsbD_ushiftRight] at h1
  have e1 : (8 * (c - 1) + p / 8) / 8 = c - 1 := by omega
  have e2 : (8 * (c - 1) + p / 8) % 8 = p / 8 := by omega
  have e3 : 8 * (p / 8) + p % 8 = p := by omega
  have e4 : p % 8 < 8 := by omega
  rw [e1, e2, e3] at h1
  have e5 : ((wordsV l).set (c - 1) ((wordsV l).getD (c - 1) 0#64 ||| 1#64 <<< p)).getD (c - 1) 0#64 = (wordsV l).getD (c - 1) 0#64 ||| 1#64 <<< p := by
    rw [List.getD_eq_getElem?_getD, List.getElem?_set_self (by rw [hwl]; omega), Option.getD_some]
  rw [e5, BitVec.getLsbD_or, bit_one p p hp64] at h1
  simp [e4] at h1

end Go.Proofs.Ytbohkamhcdnmbaa

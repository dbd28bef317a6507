import Derived.Test.YtbohkamhcdnmbaaRows
import Derived.Test.YtbohkamhcdnmbaaB1
import Derived.Deep.QuietTactic
import Derived.BigQuiet
set_option linter.unusedVariables false
namespace Go.Proofs.Ytbohkamhcdnmbaa
open Go.RowKit

theorem ret_U {a b : BitVec 64} (h : a = b) : Ending.returned (U a) = .returned (U b) := by rw [h]

/-- The word of bytes, lowest first: the first n of them. -/
def leV (l : List UInt8) : Nat → BitVec 64
  | 0 => 0#64
  | k + 1 => leV l k ||| (BitVec.ofNat 64 (l.getD k 0).toNat <<< (8 * k))
def wordV (l : List UInt8) (i : Int) : BitVec 64 :=
  if i < 0 ∨ countV l.length ≤ i then 0#64 else leV (l.drop (8 * i.toNat)) (min 8 (l.length - 8 * i.toNat))

theorem wordV_in (l : List UInt8) (i : Nat) (k : Nat) (hi : (i : Int) < countV l.length) (hk : k = min 8 (l.length - 8 * i)) : wordV l i = leV (l.drop (8 * i)) k := by
  unfold wordV
  rw [if_neg (by omega), hk, Int.toNat_natCast]

theorem leV_succ (s : ByteArray) (k : Nat) (h : k < s.size) : leV s.data.toList (k + 1) = leV s.data.toList k ||| (BitVec.ofNat 64 s[k].toNat <<< (8 * k)) := by
  rw [leV]
  congr 3
  rw [List.getD_eq_getElem?_getD, List.getElem?_eq_getElem (by simpa using h), Option.getD_some]
  rfl

set_option maxHeartbeats 400000 in
theorem word_yes (s : ByteArray) (i : Nat) (w : World) (hs : s.size ≤ maxLen) (hi : (i : Int) < countV s.size) :
    Calls Try.prog 24 #[.string s, .int .i64 i] w fun e w' => e = .returned (U (wordV s.data.toList i)) ∧ w = w' := by
  unfold maxLen at hs
  have h8 : 8 * i < s.size := by unfold countV at hi; split at hi <;> omega
  have hi' : ¬ (countV s.size ≤ i) := by omega
  have hi2 : i ≤ 9223372036854775807 := by omega
  have Hi := hid hi
  clear hi
  go_enter Try.func24, Try.ntmps24
  go_wp2_with fail
  go_step3
  go_wp2_with fail
  ((with_reducible refine (count_any _ _ (by omega)).mono ?_); rintro e w' ⟨rfl, rfl⟩)
  go_wp2_with fail
  go_step3
  go_wp2_with fail
  have hd : Hid ((s.extract (8 * i) s.size).data.toList = s.data.toList.drop (8 * i)) := by
    show _ = _
    simp [List.take_of_length_le]
  have hz : (s.extract (8 * i) s.size).size = s.size - 8 * i := by simp
  generalize s.extract (8 * i) s.size = s' at *
  have hz1 : s'.size ≤ s.size - 8 * i := by omega
  have hz2 : s.size - 8 * i ≤ s'.size := by omega
  clear hz
  have hfin : ∀ k, k = min 8 s'.size → Hid (leV s'.data.toList k = wordV s.data.toList i) := fun k hk => by
    show _ = _
    rw [wordV_in _ _ k (by simpa using Hi.out) (by rw [hk]; congr 1; simp; omega), hd.out]
  go_loop [5, 20] (fun v c => ∃ k : Nat, k ≤ 8 ∧ k ≤ s'.size ∧ c = .int .i64 k ∧ v = U (leV s'.data.toList k)) (fun _ c => 8 - (intOf c).toNat)
  case atStart => exact ⟨0, by omega, by omega, rfl, rfl⟩
  case round =>
    obtain ⟨k, hk8, hks, rfl, rfl⟩ := hrel
    by_cases h1 : k < 8
    · by_cases h2 : k < s'.size
      · have h3 : ((k : Int) == (s'.size : Int)) = false := by simp; omega
        have HS := hid (leV_succ s' k h2)
        go_wp2
        go_round
        case rel => exact ⟨k + 1, by omega, by omega, by go_num, by rw [HS.out]⟩
        case measure => simp [intOf]; omega
      · have hf := hfin k (by omega)
        obtain rfl : k = s'.size := by omega
        go_wp2
        try rw [Exit.noGoto_ret]
        go_ret
        exact ⟨ret_U hf.out, rfl⟩
    · have hf := hfin k (by omega)
      obtain rfl : k = 8 := by omega
      go_wp2
      try rw [Exit.noGoto_ret]
      go_ret
      exact ⟨ret_U hf.out, rfl⟩

set_option maxHeartbeats 400000 in
theorem word_any (s : ByteArray) (i : Int) (w : World) (hs : s.size ≤ maxLen) :
    Calls Try.prog 24 #[.string s, .int .i64 i] w fun e w' => e = .returned (U (wordV s.data.toList i)) ∧ w = w' := by
  by_cases h0 : i < 0
  · have hr : Hid (wordV s.data.toList i = 0#64) := by unfold wordV; exact if_pos (.inl h0)
    go_enter Try.func24, Try.ntmps24
    go_wp2_with fail
    go_step3
    go_wp2_with fail
    try rw [Exit.noGoto_ret]
    go_ret
    exact ⟨by rw [hr.out]; rfl, rfl⟩
  · by_cases h1 : i < countV s.size
    · obtain ⟨k, rfl⟩ := Int.eq_ofNat_of_zero_le (by omega : 0 ≤ i)
      exact word_yes s k w hs h1
    · have hr : Hid (wordV s.data.toList i = 0#64) := by unfold wordV; exact if_pos (.inr (by simpa using h1))
      unfold maxLen at hs
      go_enter Try.func24, Try.ntmps24
      go_wp2_with fail
      go_step3
      go_wp2_with fail
      ((with_reducible refine (count_any _ _ (by omega)).mono ?_); rintro e w' ⟨rfl, rfl⟩)
      go_wp2_with fail
      try rw [Exit.noGoto_ret]
      go_ret
      exact ⟨by rw [hr.out]; rfl, rfl⟩

end Go.Proofs.Ytbohkamhcdnmbaa

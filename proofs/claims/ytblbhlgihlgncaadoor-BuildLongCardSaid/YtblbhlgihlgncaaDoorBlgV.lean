/- BuildLong's struct, in plain words: k structs of three rows of zeros each. No program in sight. -/
import Derived.Test.YtblbhlgihlgncaaDoorGj
import Derived.Test.YtblbhlgihlgncaaDoorGd
import Derived.Test.YtblbhlgihlgncaaDoorGl
set_option linter.unusedVariables false
set_option linter.unusedSimpArgs false
namespace Go.Proofs.YtblbhlgihlgncaaDoor
section SBlgV
open Go.RowKit

def S3 : Schema := [[(5, 1)], [(3, 0), (3, 0), (3, 0)]]
theorem S3_right : rightB S3 = true := rfl
/-- How many numbers the row numbered i has, of n in all. -/
def aN (n i : Nat) : Nat := min (n - 12 * i) 12
def fldN (n j r : Nat) : Node (St 0) := ⟨0#64, ⟨#[]⟩, List.replicate (aN n (3 * j + r)) 0#64, []⟩
def oneN3 (n j : Nat) : St 1 := (⟨0#64, ⟨#[]⟩, [], (List.range 3).map (fldN n j)⟩ : Node (Node (St 0)))
def lngV (n k : Nat) : St 2 := (⟨0#64, ⟨#[]⟩, [], [⟨0#64, ⟨#[]⟩, [], (List.range k).map (oneN3 n)⟩]⟩ : Node (Node (St 1)))

theorem aN_le (n i : Nat) : aN n i ≤ 12 := Nat.min_le_right _ _
theorem one_words (n j : Nat) : wordsT 1 (oneN3 n j) = 3 + (aN n (3 * j) + aN n (3 * j + 1) + aN n (3 * j + 2)) := by
  show (List.map (fldN n j) (List.range 3)).length + sumL _ (List.map (fldN n j) (List.range 3)) = _
  have e : List.map (fldN n j) (List.range 3) = [fldN n j 0, fldN n j 1, fldN n j 2] := rfl
  have hz : (⟨#[]⟩ : ByteArray).size = 0 := rfl
  rw [e, sumL_cons, sumL_cons, sumL_cons, sumL_nil]
  simp [fldN, hz, sumL_nil]
  omega
theorem ones_words (n : Nat) : ∀ k, sumL (wordsT 1) ((List.range k).map (oneN3 n)) = 3 * k + min n (36 * k)
  | 0 => by simp [sumL_nil]
  | k + 1 => by
    rw [List.range_succ, List.map_append, sumL_app, ones_words n k]
    show _ + sumL (wordsT 1) [oneN3 n k] = _
    rw [sumL_cons, sumL_nil, one_words]
    unfold aN
    omega
theorem lng_words (n k : Nat) : wordsT 2 (lngV n k) = 1 + (3 * k + min n (36 * k)) := by
  show 1 + sumL (fun f : Node (St 1) => (f.bytes.size + 7) / 8 + f.nums.length + sumL (wordsT 1) f.kids) [⟨0#64, ⟨#[]⟩, [], (List.range k).map (oneN3 n)⟩] = _
  rw [sumL_cons, sumL_nil]
  have hz : (⟨#[]⟩ : ByteArray).size = 0 := rfl
  simp only [ones_words, hz, List.length_nil]
  omega
theorem one_code (n j left : Nat) (hl : 0 < left) : codeT S3 1 left 1 (oneN3 n j) = 0 := by
  rw [codeT, if_neg (by omega), if_neg (by simp [oneN3]; exact ⟨rfl, rfl⟩)]
  refine firstE_none _ _ 0 fun i q hq => ?_
  rw [Nat.zero_add]
  have hi : i < 3 := by
    have := (List.getElem?_eq_some_iff.1 hq).1
    simpa [oneN3] using this
  have hq2 : q = fldN n j i := by
    have : ((List.range 3).map (fldN n j))[i]? = some q := hq
    rw [List.getElem?_map, List.getElem?_range hi] at this
    exact (Option.some.inj this).symm
  have hf : (fieldP S3 1 i).1 = 3 := by
    rcases (show i = 0 ∨ i = 1 ∨ i = 2 by omega) with rfl | rfl | rfl <;> rfl
  rw [hf, hq2, if_pos (by
    unfold hasB hasV fldN
    have := aN_le n (3 * j + i)
    have hz : (⟨#[]⟩ : ByteArray).size = 0 := rfl
    simp [hz, this])]
  exact firstE_none _ _ 0 fun j' x hx => nomatch x
theorem lng_code (n k : Nat) (hk : k ≤ 12) : codeT S3 2 5 0 (lngV n k) = 0 := by
  rw [codeT, if_neg (by omega), if_neg (by simp [lngV]; exact ⟨rfl, rfl⟩)]
  refine firstE_none _ _ 0 fun i q hq => ?_
  rw [Nat.zero_add]
  have hi : i = 0 := by
    have := (List.getElem?_eq_some_iff.1 hq).1
    simp [lngV] at this; omega
  subst hi
  have hq2 : q = ⟨0#64, ⟨#[]⟩, [], (List.range k).map (oneN3 n)⟩ := (Option.some.inj hq).symm
  rw [show (fieldP S3 0 ((0 : Nat) : Int)) = (5, 1) from rfl, hq2, if_pos (by
    unfold hasB hasV
    have hz : (⟨#[]⟩ : ByteArray).size = 0 := rfl
    simp [hz, hk])]
  refine firstE_none _ _ 0 fun j x hx => ?_
  have hj := (List.getElem?_eq_some_iff.1 hx).1
  simp at hj
  have : x = oneN3 n j := by
    rw [List.getElem?_map, List.getElem?_range hj] at hx
    exact (Option.some.inj hx).symm
  rw [this]
  exact one_code n j _ (by omega)
/-- What building it comes to. -/
theorem lng_build (n k : Nat) (hk : k ≤ 12) : (if 2 + 3 * k + min n (36 * k) ≤ 200 then buildE S3 1 0 (lngV n k) = 0 ∧ (buildL S3 1 0 (lngV n k)).length = 2 + 3 * k + min n (36 * k) ∧ (buildL S3 1 0 (lngV n k))[0]? = some (refV ((2 + 3 * k + min n (36 * k) : Nat) : Int) 0)
    else buildE S3 1 0 (lngV n k) = 21 ∧ buildL S3 1 0 (lngV n k) = []) := by
  have hc := lng_code n k hk
  have hw := lng_words n k
  have h0 : checkC S3 2 0 (lngV n k) = 0 := by rw [checkC, if_pos ⟨S3_right, by omega, by decide⟩]; exact hc
  obtain ⟨h1, h2, _⟩ := build_lie (d := 1) hc
  have hE : buildE S3 1 0 (lngV n k) = if 1 + wordsT 2 (lngV n k) ≤ 200 then 0 else 21 := by rw [buildE, if_pos h0]
  rw [show 1 + wordsT (1 + 1) (lngV n k) = 2 + 3 * k + min n (36 * k) by show 1 + wordsT 2 (lngV n k) = _; omega] at h1 h2
  rw [show 1 + wordsT 2 (lngV n k) = 2 + 3 * k + min n (36 * k) by omega] at hE
  split
  · next hl =>
    rw [if_pos hl] at hE
    refine ⟨hE, ?_, ?_⟩
    · rw [buildL, if_pos hE]; exact h1
    · rw [buildL, if_pos hE]; exact h2
  · next hl =>
    rw [if_neg hl] at hE
    exact ⟨hE, by rw [buildL, if_neg (by rw [hE]; decide)]⟩
end SBlgV

end Go.Proofs.YtblbhlgihlgncaaDoor


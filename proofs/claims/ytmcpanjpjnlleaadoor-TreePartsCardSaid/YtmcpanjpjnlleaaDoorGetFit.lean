/- What is told of a struct by numbers, in plain words. No program in sight. -/
import Derived.Test.YtmcpanjpjnlleaaDoorTrGetC
import Derived.Test.YtmcpanjpjnlleaaDoorKeep
set_option linter.unusedVariables false
namespace Go.Proofs.YtmcpanjpjnlleaaDoor
open Go.RowKit

theorem getC_at {s : Schema} {d t : Nat} {v : St (d + 1)} {i : Nat} {k : Node (St d)} (hc : checkC s (d + 1) t v = 0) (hk : (Node.kids v)[i]? = some k) (rest : List Int) :
    getC s (d + 1) t v ((i : Int) :: rest) = getF s (fun x r => getT s d (fieldP s t i).2 x r) (fieldP s t i).1 (fieldP s t i).2 k rest := by
  rw [getC, if_pos hc, if_neg (by simp), getT, List.headD_cons, if_neg (by omega), Int.toNat_natCast, hk]; rfl

theorem getC_past {s : Schema} {d t : Nat} {v : St (d + 1)} (hc : checkC s (d + 1) t v = 0) (rest : List Int) (i : Nat) (hi : (Node.kids v).length ≤ i) :
    getC s (d + 1) t v ((i : Int) :: rest) = (0#64, 1) := by
  rw [getC, if_pos hc, if_neg (by simp), getT, List.headD_cons, if_neg (by omega), Int.toNat_natCast, List.getElem?_eq_none hi]
theorem getC_nil {s : Schema} {d t : Nat} {v : St (d + 1)} (hc : checkC s (d + 1) t v = 0) : getC s (d + 1) t v [] = (0#64, 1) := by
  rw [getC, if_pos hc, if_pos rfl]

theorem pick_nil (n : Nat) (how : Nat → BitVec 64) : pickV n [] how = (BitVec.ofNat 64 n, 0) := rfl
theorem pick_end (n : Nat) (how : Nat → BitVec 64) (l : List Int) : pickV n ((n : Int) :: l) how = (0#64, 12) := by rw [pickV, if_neg (by omega)]
theorem pick_at (n j : Nat) (how : Nat → BitVec 64) (h : j < n) : pickV n [(j : Int)] how = (how j, 0) := by rw [pickV, if_pos (by omega), if_pos rfl, Int.toNat_natCast]
theorem pick_more (n j : Nat) (how : Nat → BitVec 64) (h : j < n) (x : Int) (l : List Int) : pickV n ((j : Int) :: x :: l) how = (0#64, 24) := by rw [pickV, if_pos (by omega), if_neg (by simp)]

section
variable {s : Schema} {α : Type} {rec : α → List Int → BitVec 64 × Int} {ty : Int} {k : Node α}
theorem getF1_nil : getF s rec 1 ty k [] = (k.num, 0) := by simp [getF]
theorem getF1_more (x : Int) (l : List Int) : getF s rec 1 ty k (x :: l) = (0#64, 24) := by simp [getF]
theorem getF2 (l : List Int) : getF s rec 2 ty k l = pickV k.bytes.size l (byteV k.bytes) := by simp [getF]
theorem getF3 (l : List Int) : getF s rec 3 ty k l = pickV k.nums.length l (fun j => k.nums.getD j 0#64) := by simp [getF]
theorem getF4_nil : getF s rec 4 ty k [] = (BitVec.ofNat 64 k.kids.length, 0) := by simp [getF, endV, pick_nil]
theorem getF4_none (h : k.kids.length = 0) (x : Int) (l : List Int) : getF s rec 4 ty k (x :: l) = (0#64, 12) := by
  have : k.kids[0]? = none := List.getElem?_eq_none (by omega)
  simp [getF, this, endV, h]
theorem getF4_one {x0 : α} (h : k.kids[0]? = some x0) (x : Int) (l : List Int) : getF s rec 4 ty k (x :: l) = rec x0 (x :: l) := by simp [getF, h]
theorem getF5_nil : getF s rec 5 ty k [] = (BitVec.ofNat 64 k.kids.length, 0) := by simp [getF, endV, pick_nil]
theorem getF5_end : getF s rec 5 ty k [(k.kids.length : Int)] = (0#64, 12) := by
  simp only [getF, endV]
  by_cases h : k.kids.length = 0
  · simp [h]
  · simp [h, pick_end]
theorem getF5_at {j : Nat} (h : j < k.kids.length) : getF s rec 5 ty k [(j : Int)] = (BitVec.ofNat 64 (typeL s ty).length, 0) := by
  have h0 : ¬ k.kids.length = 0 := by omega
  simp only [getF, endV]
  simp [h0, pick_at _ _ _ h]
theorem getF5_more {j : Nat} {x0 : α} (h : k.kids[j]? = some x0) (x : Int) (l : List Int) : getF s rec 5 ty k ((j : Int) :: x :: l) = rec x0 (x :: l) := by
  simp [getF, h]
end

theorem has_kind {kd : Int} {x : BitVec 64} {nb nn nk : Nat} (h : hasV kd x nb nn nk = true) : kd = 1 ∨ kd = 2 ∨ kd = 3 ∨ kd = 4 ∨ kd = 5 := by
  unfold hasV at h
  split at h
  · omega
  split at h
  · omega
  split at h
  · omega
  split at h
  · omega
  split at h
  · omega
  · exact absurd h (by decide)
theorem has1 {x : BitVec 64} {nb nn nk : Nat} (h : hasV 1 x nb nn nk = true) : nb = 0 ∧ nn = 0 ∧ nk = 0 := by simpa [hasV] using h
theorem has2 {x : BitVec 64} {nb nn nk : Nat} (h : hasV 2 x nb nn nk = true) : x = 0#64 ∧ nn = 0 ∧ nk = 0 ∧ nb ≤ 40 := by simpa [hasV] using h
theorem has3 {x : BitVec 64} {nb nn nk : Nat} (h : hasV 3 x nb nn nk = true) : x = 0#64 ∧ nb = 0 ∧ nk = 0 ∧ nn ≤ 12 := by simpa [hasV] using h
theorem has4 {x : BitVec 64} {nb nn nk : Nat} (h : hasV 4 x nb nn nk = true) : x = 0#64 ∧ nb = 0 ∧ nn = 0 ∧ nk ≤ 1 := by simpa [hasV] using h
theorem has5 {x : BitVec 64} {nb nn nk : Nat} (h : hasV 5 x nb nn nk = true) : x = 0#64 ∧ nb = 0 ∧ nn = 0 ∧ nk ≤ 12 := by simpa [hasV] using h

theorem row_num (l : List (BitVec 64)) (j : Nat) (h : j < l.length) : (l.map U)[j]? = some (U (l.getD j 0#64)) := by simp [List.getD, h]

theorem right_row {s : Schema} (h : rightB s = true) {t : Nat} {l : Fields} (hl : s[t]? = some l) : 1 ≤ l.length ∧ l.length ≤ 6 := by
  unfold rightB at h
  rw [Bool.and_eq_true, List.all_eq_true] at h
  have := h.2 l (List.mem_of_getElem? hl)
  unfold lOk at this
  rw [Bool.and_eq_true, decide_eq_true_eq] at this
  exact this.1

/-- A struct's first field is told. -/
theorem get_first {s : Schema} {d : Nat} {t : Int} {v : St d} (h : FitT s d t v) (h1 : 1 ≤ (typeL s t).length) : (getT s d t v [0]).2 = 0 := by
  cases d with
  | zero => exact nomatch v
  | succ d =>
    obtain ⟨_, _, _, h4, h5⟩ := h
    obtain ⟨k, hk⟩ := get_lt (l := Node.kids v) (i := 0) (by omega)
    obtain ⟨g1, _, _⟩ := h5 0 k hk
    have e : getT s (d + 1) t v [0] = getF s (fun x r => getT s d (fieldP s t 0).2 x r) (fieldP s t 0).1 (fieldP s t 0).2 k [] := by
      rw [getT, List.headD_cons, if_neg (by omega)]
      show (match (Node.kids v)[0]? with | none => _ | some k => _) = _
      rw [hk]; rfl
    rw [e]
    have g2 := has_kind g1
    simp only [Int.natCast_zero, Int.ofNat_eq_natCast] at g2
    rcases g2 with g | g | g | g | g <;> rw [show (fieldP s t 0).1 = _ from g]
    · rw [getF1_nil]
    · rw [getF2, pick_nil]
    · rw [getF3, pick_nil]
    · rw [getF4_nil]
    · rw [getF5_nil]
end Go.Proofs.YtmcpanjpjnlleaaDoor


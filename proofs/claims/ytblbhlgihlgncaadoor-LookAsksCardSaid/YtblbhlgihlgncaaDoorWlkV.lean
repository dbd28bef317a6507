/- Where a path of right words goes on, word by word, in plain words. No program in sight. -/
import Derived.Test.YtblbhlgihlgncaaDoorGq
import Derived.Test.YtblbhlgihlgncaaDoorGt
set_option linter.unusedVariables false
set_option linter.unusedSimpArgs false
namespace Go.Proofs.YtblbhlgihlgncaaDoor
section SWlkV
open Go.RowKit

section
variable {s : Schema} {ws : List (BitVec 64)} {k : Nat} {t : Int} {p : Nat} {rest : List Int}

theorem getT_some {v : St (k + 1)} {p0 : Int} {kk : Node (St k)} (h0 : ¬ p0 < 0) (hk : (Node.kids v)[p0.toNat]? = some kk) : getT s (k + 1) t v (p0 :: rest) = getF s (fun x r => getT s k (fieldP s t p0).2 x r) (fieldP s t p0).1 (fieldP s t p0).2 kk rest := by
  rw [getT, List.headD_cons]
  split
  · next h => exact absurd h h0
  · split
    · next h => rw [hk] at h; cases h
    · next h => rw [hk] at h; obtain rfl := Option.some.inj h; rfl
theorem getT_none {v : St (k + 1)} {p0 : Int} (h : p0 < 0 ∨ (Node.kids v)[p0.toNat]? = none) : getT s (k + 1) t v (p0 :: rest) = (0#64, 1) := by
  rw [getT, List.headD_cons]
  split
  · rfl
  · next h0 =>
    split
    · rfl
    · next hs => rcases h with h | h
                 · exact absurd h h0
                 · rw [h] at hs; cases hs
theorem get_dec {p0 : Nat} (h : p0 < (typeL s t).length) : getT s (k + 1) t (decS s ws k t p) ((p0 : Int) :: rest) =
    getF s (fun x r => getT s k (fieldP s t p0).2 x r) (fieldP s t p0).1 (fieldP s t p0).2 (decF ws (decR s ws k) (fieldP s t p0) (p + p0)) rest :=
  getT_some (by omega) (by rw [decS_kids, List.getElem?_map, Int.toNat_natCast, List.getElem?_range h]; rfl)
theorem get_out {p0 : Int} (h : p0 < 0 ∨ ((typeL s t).length : Int) ≤ p0) : getT s (k + 1) t (decS s ws k t p) (p0 :: rest) = (0#64, 1) := by
  refine getT_none ?_
  by_cases h0 : p0 < 0
  · exact .inl h0
  · exact .inr (by rw [decS_kids]; exact List.getElem?_eq_none (by simp; omega))

variable {kd ty : Int} {q : Nat}
abbrev GF (s : Schema) (ws : List (BitVec 64)) (k : Nat) (kd ty : Int) (q : Nat) (rest : List Int) : BitVec 64 × Int := getF s (fun x r => getT s k ty x r) kd ty (decF ws (decR s ws k) (kd, ty) q) rest

theorem gf_num0 (h : kd = 1) : GF s ws k kd ty q [] = (ws.getD q 0#64, 0) := by
  unfold GF getF decF
  simp only [h, if_true]
theorem gf_num (h : kd = 1) (hr : rest ≠ []) : GF s ws k kd ty q rest = (0#64, 24) := by
  unfold GF getF
  rw [if_pos h, if_neg hr]
/-- A field whose word is 0. -/
theorem gf_zero (h1 : kd ≠ 1) (hx : ws.getD q 0#64 = 0#64) : GF s ws k kd ty q rest = (if rest = [] then (0#64, 0) else (0#64, 12)) := by
  have hz : (⟨#[]⟩ : ByteArray).size = 0 := rfl
  have hp : ∀ how, pickV 0 rest how = (if rest = [] then (0#64, 0) else (0#64, 12)) := fun how => by
    cases rest with
    | nil => rfl
    | cons i r => simp only [pickV]; rw [if_neg (by omega), if_neg (by simp)]
  have he : endV s ty 0 rest = (if rest = [] then (0#64, 0) else (0#64, 12)) := by
    unfold endV
    by_cases hr : rest = []
    · rw [if_neg (by simp [hr]), hp]
    · rw [if_pos ⟨hr, rfl⟩, if_neg hr]
  have hd : decF ws (decR s ws k) (kd, ty) q = (⟨0#64, ⟨#[]⟩, [], []⟩ : Node (St k)) := by
    unfold decF
    simp only
    rw [if_neg h1, if_pos hx]
  unfold GF getF
  rw [hd]
  simp only [List.length_nil, hz, List.getElem?_nil, hp, he]
  rw [if_neg h1]
  split
  · rfl
  split
  · rfl
  split
  · split <;> rfl
  split
  · split <;> rfl
  · rfl

variable (hk : 1 ≤ kd ∧ kd ≤ 5) (hO : OneOk s ws k (kd, ty) q) (hx : ws.getD q 0#64 ≠ 0#64)
theorem one_parts {hk : 1 ≤ kd ∧ kd ≤ 5} (h1 : kd ≠ 1) (hO : OneOk s ws k (kd, ty) q) (hx : ws.getD q 0#64 ≠ 0#64) : 0 < hiN (ws.getD q 0#64) ∧ hiN (ws.getD q 0#64) ≤ mostN kd ∧ 0 < loN (ws.getD q 0#64) := by
  rcases hO with h | h | ⟨_, _, h3, h4, h5, _⟩
  · exact absurd h h1
  · exact absurd h hx
  · exact ⟨h4, h5, h3⟩
theorem gf_bytes (hk2 : kd = 2) (hO : OneOk s ws k (kd, ty) q) (hx : ws.getD q 0#64 ≠ 0#64) :
    q + loN (ws.getD q 0#64) + (hiN (ws.getD q 0#64) + 7) / 8 ≤ ws.length ∧ ∃ b : ByteArray, b.size = hiN (ws.getD q 0#64) ∧ b = ⟨(textV ((ws.drop (q + loN (ws.getD q 0#64))).take ((hiN (ws.getD q 0#64) + 7) / 8)) (hiN (ws.getD q 0#64) : Nat)).toArray⟩ ∧
      textOk ((ws.drop (q + loN (ws.getD q 0#64))).take ((hiN (ws.getD q 0#64) + 7) / 8)) (hiN (ws.getD q 0#64) : Nat) = true ∧
      GF s ws k kd ty q rest = pickV (hiN (ws.getD q 0#64)) rest (byteV b) := by
  subst hk2
  rcases hO with h | h | ⟨_, _, _, _, _, h⟩
  · simp at h
  · exact absurd h hx
  rcases h with h | h | h
  · have := h.1; simp at this
  · refine ⟨h.2.1, _, ?_, rfl, h.2.2, ?_⟩
    · show (List.toArray _).size = _
      rw [List.size_toArray]; exact textV_size h.2.2
    · have hs : (⟨(textV ((ws.drop (q + loN (ws.getD q 0#64))).take ((hiN (ws.getD q 0#64) + 7) / 8)) (hiN (ws.getD q 0#64) : Nat)).toArray⟩ : ByteArray).size = hiN (ws.getD q 0#64) := by
        show (List.toArray _).size = _
        rw [List.size_toArray]; exact textV_size h.2.2
      have hd : decF ws (decR s ws k) (2, ty) q = (⟨0#64, ⟨(textV ((ws.drop (q + loN (ws.getD q 0#64))).take ((hiN (ws.getD q 0#64) + 7) / 8)) (hiN (ws.getD q 0#64) : Nat)).toArray⟩, [], []⟩ : Node (St k)) := by
        unfold decF
        rw [if_neg (show ¬ ((2 : Int), ty).1 = 1 by simp), if_neg hx, if_pos rfl]
      unfold GF getF
      rw [hd, if_neg (by decide), if_pos rfl]
      simp only [hs]
  · have := h.1; simp at this
theorem gf_nums (hk3 : kd = 3) (hO : OneOk s ws k (kd, ty) q) (hx : ws.getD q 0#64 ≠ 0#64) :
    q + loN (ws.getD q 0#64) + hiN (ws.getD q 0#64) ≤ ws.length ∧ GF s ws k kd ty q rest = pickV (hiN (ws.getD q 0#64)) rest (fun j => if j < hiN (ws.getD q 0#64) then ws.getD (q + loN (ws.getD q 0#64) + j) 0#64 else 0#64) := by
  subst hk3
  rcases hO with h | h | ⟨_, _, _, _, _, h⟩
  · simp at h
  · exact absurd h hx
  rcases h with h | h | h
  · refine ⟨h.2, ?_⟩
    have hd : decF ws (decR s ws k) (3, ty) q = (⟨0#64, ⟨#[]⟩, (ws.drop (q + loN (ws.getD q 0#64))).take (hiN (ws.getD q 0#64)), []⟩ : Node (St k)) := by
      unfold decF
      rw [if_neg (show ¬ ((3 : Int), ty).1 = 1 by simp), if_neg hx, if_neg (show ¬ ((3 : Int), ty).1 = 2 by simp), if_pos rfl]
    have hl : ((ws.drop (q + loN (ws.getD q 0#64))).take (hiN (ws.getD q 0#64))).length = hiN (ws.getD q 0#64) := by rw [List.length_take, List.length_drop]; have := h.2; omega
    unfold GF getF
    rw [hd, if_neg (by decide), if_neg (by decide), if_pos rfl]
    simp only [hl]
    congr 1
    funext j
    rw [List.getD_eq_getElem?_getD, List.getElem?_take]
    split
    · rw [List.getElem?_drop, ← List.getD_eq_getElem?_getD]
    · rfl
  · have := h.1; simp at this
  · have := h.2.1; simp at this
/-- A field that has structs: they lie there. -/
theorem gf_kids (h4 : kd = 4 ∨ kd = 5) (hO : OneOk s ws k (kd, ty) q) (hx : ws.getD q 0#64 ≠ 0#64) :
    ∃ k', k = k' + 1 ∧ q + loN (ws.getD q 0#64) + hiN (ws.getD q 0#64) * (typeL s ty).length ≤ ws.length ∧ (∀ j, j < hiN (ws.getD q 0#64) → VisOk s ws k' ty (q + loN (ws.getD q 0#64) + j * (typeL s ty).length)) := by
  rcases hO with h | h | ⟨_, _, _, _, _, h⟩
  · simp only at h; omega
  · exact absurd h hx
  rcases h with h | h | ⟨_, _, k', e, h5, h6⟩
  · have := h.1; simp only at this; omega
  · have := h.1; simp only at this; omega
  · exact ⟨k', e, h5, h6⟩
theorem gf_one {k' : Nat} (hk4 : kd = 4) (hx : ws.getD q 0#64 ≠ 0#64) (h0 : 0 < hiN (ws.getD q 0#64)) (h1 : hiN (ws.getD q 0#64) ≤ 1) :
    GF s ws (k' + 1) kd ty q rest = if rest = [] then (BitVec.ofNat 64 (hiN (ws.getD q 0#64)), 0) else getT s (k' + 1) ty (decS s ws k' ty (q + loN (ws.getD q 0#64))) rest := by
  subst hk4
  have hn : hiN (ws.getD q 0#64) = 1 := by omega
  have hd : decF ws (decR s ws (k' + 1)) (4, ty) q = (⟨0#64, ⟨#[]⟩, [], [decS s ws k' ty (q + loN (ws.getD q 0#64))]⟩ : Node (St (k' + 1))) := by
    unfold decF
    simp only
    rw [if_neg (by decide), if_neg hx, if_neg (by decide), if_neg (by decide), decR_succ, hn]
    simp
  unfold GF getF
  rw [hd, if_neg (by decide), if_neg (by decide), if_neg (by decide), if_pos rfl]
  simp only [List.getElem?_cons_zero, List.length_singleton]
  by_cases hr : rest = []
  · rw [if_neg (by simp [hr]), if_pos hr, hr, hn]
    unfold endV
    rw [if_neg (by simp)]
    rfl
  · rw [if_pos hr, if_neg hr]
theorem gf_many {k' : Nat} (hk5 : kd = 5) (hx : ws.getD q 0#64 ≠ 0#64) (h0 : 0 < hiN (ws.getD q 0#64)) :
    GF s ws (k' + 1) kd ty q rest = match rest with
      | [] => (BitVec.ofNat 64 (hiN (ws.getD q 0#64)), 0)
      | i :: r => if 0 ≤ i ∧ i < hiN (ws.getD q 0#64) then (if r = [] then (BitVec.ofNat 64 (typeL s ty).length, 0) else getT s (k' + 1) ty (decS s ws k' ty (q + loN (ws.getD q 0#64) + i.toNat * (typeL s ty).length)) r) else (0#64, 12) := by
  subst hk5
  obtain ⟨n, hn⟩ : ∃ n, n = hiN (ws.getD q 0#64) := ⟨_, rfl⟩
  obtain ⟨to, hto⟩ : ∃ to, to = q + loN (ws.getD q 0#64) := ⟨_, rfl⟩
  have hd : decF ws (decR s ws (k' + 1)) (5, ty) q = (⟨0#64, ⟨#[]⟩, [], (List.range n).map fun (j : Nat) => decS s ws k' ty (to + j * (typeL s ty).length)⟩ : Node (St (k' + 1))) := by
    unfold decF
    simp only
    rw [if_neg (by decide), if_neg hx, if_neg (by decide), if_neg (by decide), decR_succ, ← hn, ← hto]
  rw [← hn] at h0 ⊢
  rw [← hto]
  unfold GF getF
  rw [hd, if_neg (by decide), if_neg (by decide), if_neg (by decide), if_neg (by decide), if_pos rfl]
  have hl : ((List.range n).map fun (j : Nat) => decS s ws k' ty (to + j * (typeL s ty).length)).length = n := by simp
  have he : endV s ty n rest = pickV n rest (fun _ => BitVec.ofNat 64 (typeL s ty).length) := by unfold endV; rw [if_neg (by omega)]
  simp only [hl, he]
  cases rest with
  | nil => rw [if_neg (by simp)]; rfl
  | cons i r =>
    simp only [List.tail_cons, List.headD_cons, pickV]
    by_cases hi : 0 ≤ i ∧ i < n
    · rw [if_pos hi]
      by_cases hr : r = []
      · rw [if_neg (by simp [hr]), if_pos hi, if_pos hr, if_pos hr]
      · rw [if_pos ⟨hr, hi.1⟩, if_pos hi, List.getElem?_map, List.getElem?_range (by omega)]
        simp only [hr, if_false, Option.map]
    · rw [if_neg hi]
      split
      · next h =>
        rw [List.getElem?_eq_none (by simp; omega)]
      · rfl
/-- A byte of a text, out of its word. -/
theorem byte_get {ws : List (BitVec 64)} {n i : Nat} (h : textOk ws n = true) (hi : i < n) : byteV ⟨(textV ws n).toArray⟩ i = getV (ws.getD (i / 8) 0#64) ((8 * (i % 8) : Nat) : Int) 8 := by
  have hlen := textV_size h
  have hb : (textV ws n)[i]? = some (byteAt ws i) := by
    unfold textV at hlen ⊢
    rw [if_pos h, Int.toNat_natCast] at *
    rw [List.length_take, bytesV_length] at hlen
    rw [List.getElem?_take, if_pos hi, bytesV_get ws i (by omega)]
  unfold byteV
  show BitVec.ofNat 64 ((textV ws n).toArray.toList.getD i 0).toNat = _
  rw [List.toList_toArray, List.getD_eq_getElem?_getD, hb]
  unfold byteAt getV
  rw [if_pos (by unfold mayB; simp; omega)]
  generalize ws.getD (i / 8) 0#64 = x
  apply BitVec.eq_of_toNat_eq
  have hall : allV 8 = 255#64 := by decide
  rw [hall, Int.toNat_natCast]
  show (BitVec.ofNat 64 (UInt8.ofNat (x >>> (8 * (i % 8))).toNat).toNat).toNat = _
  rw [BitVec.toNat_and, show (255#64).toNat = 2 ^ 8 - 1 from rfl, Nat.and_two_pow_sub_one_eq_mod, BitVec.toNat_ofNat]
  have : (UInt8.ofNat (x >>> (8 * (i % 8))).toNat).toNat = (x >>> (8 * (i % 8))).toNat % 256 := by simp
  rw [this]
  omega
end
end SWlkV

end Go.Proofs.YtblbhlgihlgncaaDoor


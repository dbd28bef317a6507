/- Of right words a walk asks for words of them alone, as many as the path has numbers at most, and is told what the path leads to. No program in sight. -/
import Derived.Test.YtblbhlgihlgncaaDoorWkM
import Derived.Test.YtblbhlgihlgncaaDoorGg
import Derived.Test.YtblbhlgihlgncaaDoorGu
set_option linter.unusedVariables false
set_option linter.unusedSimpArgs false
namespace Go.Proofs.YtblbhlgihlgncaaDoor
section SWkR
open Go.RowKit

/-- What a walk that asks needs, so that it may be given a word. -/
structure AskOk (s : Schema) (L : Nat) (l : List Int) (g : WSt) : Prop where
  ask : 1 ≤ g.ask ∧ g.ask < L
  k : g.k < l.length
  last : g.last = 0 ∨ g.last = 3 ∨ (g.last = 2 ∧ 0 ≤ l.getD g.k 0)
  fld : g.last = 0 → (1 ≤ (fieldP s g.t (l.getD g.k 0)).1 ∧ (fieldP s g.t (l.getD g.k 0)).1 ≤ 5) ∧ (typeL s (fieldP s g.t (l.getD g.k 0)).2).length ≤ 1000000
/-- It ends within n words, and tells R. -/
def Goes (s : Schema) (ws : List (BitVec 64)) (l : List Int) : Nat → WSt → BitVec 64 × Int → Prop
  | 0, g, R => g.ask = -1 ∧ g.n = R.1 ∧ g.code = R.2
  | n + 1, g, R => (g.ask = -1 ∧ g.n = R.1 ∧ g.code = R.2) ∨ (AskOk s ws.length l g ∧ Goes s ws l n (giveV s l g (ws.getD g.ask.toNat 0#64)) R)

section
variable {s : Schema} {ws : List (BitVec 64)} {l : List Int}
theorem Goes.fin {n : Nat} {g : WSt} {R : BitVec 64 × Int} (h : g.ask = -1) (h1 : g.n = R.1) (h2 : g.code = R.2) : Goes s ws l n g R := by
  cases n with
  | zero => exact ⟨h, h1, h2⟩
  | succ n => exact .inl ⟨h, h1, h2⟩
theorem Goes.more {n : Nat} {R : BitVec 64 × Int} : ∀ {m : Nat} {g : WSt}, Goes s ws l m g R → m ≤ n → Goes s ws l n g R := by
  induction n with
  | zero =>
    intro m g h hm
    obtain rfl : m = 0 := (by omega)
    exact h
  | succ n ih =>
    intro m g h hm
    cases m with
    | zero => exact .inl h
    | succ m =>
      rcases h with h | ⟨h1, h2⟩
      · exact .inl h
      · exact .inr ⟨h1, ih h2 (by omega)⟩

theorem drop_at {k : Nat} (h : k < l.length) : l.drop k = l.getD k 0 :: l.drop (k + 1) := by
  rw [List.getD_eq_getElem?_getD, List.getElem?_eq_getElem h, Option.getD_some]
  exact List.drop_eq_getElem_cons h
theorem drop_end {k : Nat} (h : l.length ≤ k) : l.drop k = [] := List.drop_eq_nil_of_le h

end

def FromP (s : Schema) (ws : List (BitVec 64)) (l : List Int) (k : Nat) : Prop := ∀ (t : Int) (p : Nat) (g : WSt), VisOk s ws k t p → g.last = 0 → 1 ≤ p → g.k < l.length →
    Goes s ws l (l.length - g.k) (enterV s l g t p) (getT s (k + 1) t (decS s ws k t p) (l.drop g.k))

theorem hi_zeroW {x : BitVec 64} (h : x = 0#64) : hiN x = 0 := by rw [h]; rfl

/-- From a row's item on: a struct. -/
theorem goes_item {s : Schema} {ws : List (BitVec 64)} {l : List Int} {k' : Nat} (ih : FromP s ws l k') {g : WSt} {ty : Int} {q n to : Nat} (h0 : g.last = 0) (h1 : 1 ≤ to) (hk : g.k + 1 < l.length)
    (hV : ∀ j, j < n → VisOk s ws k' ty (to + j * (typeL s ty).length)) (hi0 : 0 ≤ l.getD (g.k + 1) 0) (hi1 : l.getD (g.k + 1) 0 < n) :
    Goes s ws l (l.length - g.k - 1) (itemV s l g 5 ty (to : Int)) (if l.drop (g.k + 2) = [] then (BitVec.ofNat 64 (typeL s ty).length, 0) else getT s (k' + 1) ty (decS s ws k' ty (to + (l.getD (g.k + 1) 0).toNat * (typeL s ty).length)) (l.drop (g.k + 2))) := by
  unfold itemV
  rw [if_pos rfl]
  by_cases h2 : l.length = g.k + 2
  · rw [if_pos h2, if_pos (drop_end (by omega))]
    exact Goes.fin rfl rfl rfl
  · have hne : l.drop (g.k + 2) ≠ [] := by rw [drop_at (by omega)]; simp
    rw [if_neg h2, if_neg hne]
    obtain ⟨j, hj⟩ : ∃ j : Nat, l.getD (g.k + 1) 0 = j := ⟨(l.getD (g.k + 1) 0).toNat, by omega⟩
    rw [hj, Int.toNat_natCast]
    rw [hj] at hi0 hi1
    have := ih ty (to + j * (typeL s ty).length) ⟨g.t, g.k + 2, g.ask, g.last, g.n, g.code⟩ (hV j (by omega)) h0 (by omega) (by show g.k + 2 < l.length; omega)
    rw [show ((to + j * (typeL s ty).length : Nat) : Int) = (to : Int) + (j : Int) * (typeL s ty).length by push_cast; rfl] at this
    exact this.more (by show l.length - (g.k + 2) ≤ _; omega)

/-- From a field's word on. -/
theorem goes_field {s : Schema} {ws : List (BitVec 64)} {l : List Int} {k : Nat} (ih : ∀ k', k = k' + 1 → FromP s ws l k') {g : WSt} {kd ty : Int} {q : Nat} (hq : g.ask = q) (h0 : g.last = 0) (h1 : 1 ≤ q) (hk : g.k < l.length) (hql : q < ws.length)
    (hfd : fieldP s g.t (l.getD g.k 0) = (kd, ty)) (hO : OneOk s ws k (kd, ty) q) (hkd : 1 ≤ kd ∧ kd ≤ 5) :
    Goes s ws l (l.length - g.k - 1) (fieldV s l g (ws.getD q 0#64)) (GF s ws k kd ty q (l.drop (g.k + 1))) := by
  unfold fieldV
  simp only [hfd, hq]
  obtain ⟨x, hx⟩ : ∃ x, x = ws.getD q 0#64 := ⟨_, rfl⟩
  by_cases hend : l.length = g.k + 1
  · rw [if_pos hend, drop_end (by omega)]
    by_cases hk1 : kd = 1
    · rw [if_pos hk1, gf_num0 hk1]
      exact Goes.fin rfl rfl rfl
    rw [if_neg hk1]
    by_cases hz : ws.getD q 0#64 = 0#64
    · rw [gf_zero hk1 hz, if_pos rfl, hi_zeroW hz]
      exact Goes.fin rfl rfl rfl
    have hp := one_parts (hk := hkd) hk1 hO hz
    rcases (show kd = 2 ∨ kd = 3 ∨ kd = 4 ∨ kd = 5 by omega) with h | h | h | h
    · obtain ⟨_, b, _, _, _, he⟩ := gf_bytes (rest := []) h hO hz
      rw [he]
      exact Goes.fin rfl rfl rfl
    · obtain ⟨_, he⟩ := gf_nums (rest := []) h hO hz
      rw [he]
      exact Goes.fin rfl rfl rfl
    · obtain ⟨k', rfl, _, _⟩ := gf_kids (.inl h) hO hz
      rw [gf_one h hz hp.1 (by rw [h] at hp; exact hp.2.1), if_pos rfl]
      exact Goes.fin rfl rfl rfl
    · obtain ⟨k', rfl, _, _⟩ := gf_kids (.inr h) hO hz
      rw [gf_many h hz hp.1]
      exact Goes.fin rfl rfl rfl
  rw [if_neg hend]
  have hne : l.drop (g.k + 1) ≠ [] := by rw [drop_at (by omega)]; simp
  by_cases hk1 : kd = 1
  · rw [if_pos hk1, gf_num hk1 hne]
    exact Goes.fin rfl rfl rfl
  rw [if_neg hk1]
  by_cases hz : ws.getD q 0#64 = 0#64
  · rw [gf_zero hk1 hz, if_neg hne, if_pos (hi_zeroW hz)]
    exact Goes.fin rfl rfl rfl
  have hp := one_parts (hk := hkd) hk1 hO hz
  rw [if_neg (by omega)]
  have hto : (q : Int) + (loN (ws.getD q 0#64) : Int) = ((q + loN (ws.getD q 0#64) : Nat) : Int) := by omega
  by_cases h4 : kd = 4
  · rw [if_pos h4]
    obtain ⟨k', rfl, hl4, hV⟩ := gf_kids (.inl h4) hO hz
    rw [gf_one h4 hz hp.1 (by rw [h4] at hp; exact hp.2.1), if_neg hne, hto]
    have h00 := hV 0 hp.1
    rw [Nat.zero_mul, Nat.add_zero] at h00
    exact (ih k' rfl ty _ ⟨g.t, g.k + 1, g.ask, g.last, g.n, g.code⟩ h00 h0 (by omega) (by show g.k + 1 < l.length; omega)).more (by show l.length - (g.k + 1) ≤ _; omega)
  rw [if_neg h4]
  have hd1 := drop_at (l := l) (k := g.k + 1) (by omega)
  obtain ⟨i, hi⟩ : ∃ i, i = l.getD (g.k + 1) 0 := ⟨_, rfl⟩
  by_cases hout : l.getD (g.k + 1) 0 < 0 ∨ (hiN (ws.getD q 0#64) : Int) ≤ l.getD (g.k + 1) 0
  · rw [if_pos hout]
    have hpk : ∀ how, pickV (hiN (ws.getD q 0#64)) (l.drop (g.k + 1)) how = (0#64, 12) := fun how => by
      rw [hd1]; simp only [pickV]; rw [if_neg (by omega)]
    rcases (show kd = 2 ∨ kd = 3 ∨ kd = 5 by omega) with h | h | h
    · obtain ⟨_, b, _, _, _, he⟩ := gf_bytes (rest := l.drop (g.k + 1)) h hO hz
      rw [he, hpk]
      exact Goes.fin rfl rfl rfl
    · obtain ⟨_, he⟩ := gf_nums (rest := l.drop (g.k + 1)) h hO hz
      rw [he, hpk]
      exact Goes.fin rfl rfl rfl
    · obtain ⟨k', rfl, _, _⟩ := gf_kids (.inr h) hO hz
      rw [gf_many h hz hp.1, hd1]
      simp only
      rw [if_neg (by omega)]
      exact Goes.fin rfl rfl rfl
  rw [if_neg hout, hto]
  have hin : 0 ≤ l.getD (g.k + 1) 0 ∧ l.getD (g.k + 1) 0 < (hiN (ws.getD q 0#64) : Int) := by omega
  by_cases h5 : kd = 5
  · obtain ⟨k', rfl, hl5, hV⟩ := gf_kids (.inr h5) hO hz
    have h := goes_item (ih k' rfl) (g := g) (ty := ty) (q := q) (n := hiN (ws.getD q 0#64)) (to := q + loN (ws.getD q 0#64)) h0 (by omega) (by omega) hV hin.1 hin.2
    rw [gf_many h5 hz hp.1, hd1]
    simp only
    rw [if_pos hin]
    rw [h5]
    exact h
  unfold itemV
  rw [if_neg h5]
  by_cases hlong : g.k + 2 < l.length
  · rw [if_pos hlong]
    have hne2 : l.drop (g.k + 1 + 1) ≠ [] := by rw [drop_at (by omega)]; simp
    have hpk : ∀ how, pickV (hiN (ws.getD q 0#64)) (l.drop (g.k + 1)) how = (0#64, 24) := fun how => by
      rw [hd1]; simp only [pickV]; rw [if_pos hin, if_neg hne2]
    rcases (show kd = 2 ∨ kd = 3 by omega) with h | h
    · obtain ⟨_, b, _, _, _, he⟩ := gf_bytes (rest := l.drop (g.k + 1)) h hO hz
      rw [he, hpk]
      exact Goes.fin rfl rfl rfl
    · obtain ⟨_, he⟩ := gf_nums (rest := l.drop (g.k + 1)) h hO hz
      rw [he, hpk]
      exact Goes.fin rfl rfl rfl
  rw [if_neg hlong]
  have hle : l.length = g.k + 2 := by omega
  have hnil : l.drop (g.k + 1 + 1) = [] := drop_end (by omega)
  have hpk : ∀ how, pickV (hiN (ws.getD q 0#64)) (l.drop (g.k + 1)) how = (how (l.getD (g.k + 1) 0).toNat, 0) := fun how => by
    rw [hd1]; simp only [pickV]; rw [if_pos hin, if_pos hnil]
  obtain ⟨j, hj⟩ : ∃ j : Nat, l.getD (g.k + 1) 0 = j := ⟨(l.getD (g.k + 1) 0).toNat, by omega⟩
  rw [show l.length - g.k - 1 = 0 + 1 by omega]
  rcases (show kd = 2 ∨ kd = 3 by omega) with h | h
  · obtain ⟨hlen, b, hbs, hb, hok, he⟩ := gf_bytes (rest := l.drop (g.k + 1)) h hO hz
    rw [he, hpk, if_pos h, hj, Int.toNat_natCast]
    rw [hj] at hin
    have hdiv : (j : Int) / 8 = ((j / 8 : Nat) : Int) := by omega
    have hask : ((q + loN (ws.getD q 0#64) : Nat) : Int) + (j : Int) / 8 = ((q + loN (ws.getD q 0#64) + j / 8 : Nat) : Int) := by omega
    refine .inr ⟨⟨?_, ?_, ?_, ?_⟩, ?_⟩
    · simp only; omega
    · simp only; omega
    · exact .inr (.inr ⟨h, by simp only; rw [hj]; omega⟩)
    · intro h0; simp only at h0; omega
    · simp only [hask]
      unfold giveV
      simp only
      rw [if_neg (by omega), if_neg (by omega), if_pos h, hj, Int.toNat_natCast]
      refine ⟨rfl, ?_, rfl⟩
      show getV _ _ 8 = byteV b j
      rw [hb, byte_get hok (by omega)]
      have hget : ((ws.drop (q + loN (ws.getD q 0#64))).take ((hiN (ws.getD q 0#64) + 7) / 8)).getD (j / 8) 0#64 = ws.getD (q + loN (ws.getD q 0#64) + j / 8) 0#64 := by
        rw [List.getD_eq_getElem?_getD, List.getElem?_take, if_pos (by omega), List.getElem?_drop, ← List.getD_eq_getElem?_getD]
      rw [hget, show (8 * ((j : Int) % 8)) = ((8 * (j % 8) : Nat) : Int) by omega]
  · obtain ⟨hlen, he⟩ := gf_nums (rest := l.drop (g.k + 1)) h hO hz
    rw [he, hpk, if_neg (show ¬ kd = 2 by omega), hj, Int.toNat_natCast]
    rw [hj] at hin
    have hask : ((q + loN (ws.getD q 0#64) : Nat) : Int) + (j : Int) = ((q + loN (ws.getD q 0#64) + j : Nat) : Int) := by omega
    refine .inr ⟨⟨?_, ?_, ?_, ?_⟩, ?_⟩
    · simp only; omega
    · simp only; omega
    · exact .inr (.inl h)
    · intro h0; simp only at h0; omega
    · simp only [hask]
      unfold giveV
      simp only
      rw [if_neg (by omega), if_pos h, Int.toNat_natCast]
      refine ⟨rfl, ?_, rfl⟩
      show _ = (if j < hiN (ws.getD q 0#64) then ws.getD (q + loN (ws.getD q 0#64) + j) 0#64 else 0#64)
      rw [if_pos (by omega)]
      rfl

/-- From a struct of right words on. -/
theorem goes_from {s : Schema} {ws : List (BitVec 64)} {l : List Int} (hr : rightB s = true) (k : Nat) (ih : ∀ k', k = k' + 1 → FromP s ws l k') : FromP s ws l k := by
  intro t p g hV h0 h1 hk
  have hd := drop_at hk
  obtain ⟨p0, hp0⟩ : ∃ p0, l.getD g.k 0 = p0 := ⟨_, rfl⟩
  rw [hd, hp0]
  unfold enterV
  rw [hp0]
  by_cases hout : p0 < 0 ∨ ((typeL s t).length : Int) ≤ p0
  · rw [if_pos (.inr hout), get_out hout]
    exact Goes.fin rfl rfl rfl
  rw [if_neg (by omega)]
  obtain ⟨i, rfl⟩ : ∃ i : Nat, p0 = i := ⟨p0.toNat, by omega⟩
  have hi : i < (typeL s t).length := by omega
  rw [get_dec hi]
  have hO := vis_one hV hi
  have hkd := field_kd hr hi
  have hpl := hV.1
  obtain ⟨kd, ty, hfd⟩ : ∃ kd ty, fieldP s t i = (kd, ty) := ⟨_, _, rfl⟩
  rw [hfd] at hO hkd ⊢
  simp only at hkd
  rw [show l.length - g.k = (l.length - g.k - 1) + 1 by omega]
  refine .inr ⟨⟨?_, hk, .inl h0, fun _ => ?_⟩, ?_⟩
  · simp only; omega
  · simp only [hp0, hfd]
    exact ⟨⟨hkd.1, hkd.2.1⟩, by have := typeL_len hr ty; omega⟩
  · have hask : (p : Int) + (i : Int) = ((p + i : Nat) : Int) := by omega
    unfold giveV
    simp only [hask, Int.toNat_natCast]
    rw [if_neg (by omega), if_neg (by rw [h0]; decide), if_neg (by rw [h0]; decide)]
    exact goes_field ih (g := ⟨t, g.k, ((p + i : Nat) : Int), g.last, g.n, g.code⟩) rfl h0 (by omega) hk (by omega) (by rw [← hfd, ← hp0]) hO ⟨hkd.1, hkd.2.1⟩

theorem goes_all {s : Schema} {ws : List (BitVec 64)} {l : List Int} (hr : rightB s = true) : ∀ k, FromP s ws l k
  | 0 => goes_from hr 0 fun k' h => absurd h (by omega)
  | k + 1 => goes_from hr (k + 1) fun k' h => by obtain rfl : k = k' := by omega
                                                 exact goes_all hr k

def w0S : WSt := ⟨0, 0, 0, 0, 0#64, 0⟩
/-- A walk of right words, from its start on. -/
theorem goes_start {s : Schema} {ws : List (BitVec 64)} {l : List Int} (hA : (allW s ws).1 = 0) : Goes s ws l l.length (enterV s l w0S (hiN (ws.getD 0 0#64) : Nat) 1) (getC s 5 (hiN (ws.getD 0 0#64) : Nat) (decS s ws 4 (hiN (ws.getD 0 0#64) : Nat) 1) l) := by
  obtain ⟨hr, _, _, _, _, hV⟩ := all_vis hA
  unfold getC
  rw [if_pos (dec_check hA)]
  by_cases hl : l = []
  · rw [if_pos hl]
    unfold enterV
    rw [if_pos (.inl (by rw [hl]; exact Nat.zero_le _))]
    exact Goes.fin rfl rfl rfl
  · rw [if_neg hl]
    have hpos : 0 < l.length := List.length_pos_iff.2 hl
    have := goes_all hr 4 _ 1 w0S hV rfl (by omega) (l := l) (by show 0 < l.length; exact hpos)
    exact this
end SWkR

end Go.Proofs.YtblbhlgihlgncaaDoor


/- What decoding words comes to, in plain words. No program in sight. -/
import Derived.Test.YtogaclolodlnbaaDoorValL
import Derived.Test.YtogaclolodlnbaaDoorGf
import Derived.Test.YtogaclolodlnbaaDoorGd
set_option linter.unusedVariables false
set_option linter.unusedSimpArgs false
namespace Go.Proofs.YtogaclolodlnbaaDoor
section SDecV
open Go.RowKit

/-- The field whose word lies at p. -/
def decF {α : Type} (ws : List (BitVec 64)) (rec : Int → Nat → Nat → List α) (fd : Int × Int) (p : Nat) : Node α :=
  if fd.1 = 1 then ⟨ws.getD p 0#64, ⟨#[]⟩, [], []⟩
  else if ws.getD p 0#64 = 0#64 then ⟨0#64, ⟨#[]⟩, [], []⟩
  else if fd.1 = 2 then ⟨0#64, ⟨(textV ((ws.drop (p + loN (ws.getD p 0#64))).take ((hiN (ws.getD p 0#64) + 7) / 8)) (hiN (ws.getD p 0#64) : Nat)).toArray⟩, [], []⟩
  else if fd.1 = 3 then ⟨0#64, ⟨#[]⟩, (ws.drop (p + loN (ws.getD p 0#64))).take (hiN (ws.getD p 0#64)), []⟩
  else ⟨0#64, ⟨#[]⟩, [], rec fd.2 (p + loN (ws.getD p 0#64)) (hiN (ws.getD p 0#64))⟩
/-- A row of n structs that lie from a word on, less than d + 1 deep. -/
def decR (s : Schema) (ws : List (BitVec 64)) : (d : Nat) → Int → Nat → Nat → List (St d)
  | 0, _, _, _ => []
  | d + 1, ty, to, n => (List.range n).map fun (j : Nat) => (⟨0#64, ⟨#[]⟩, [], (List.range (typeL s ty).length).map fun (i : Nat) => decF ws (decR s ws d) (fieldP s ty i) (to + j * (typeL s ty).length + i)⟩ : Node (Node (St d)))
/-- The struct whose words lie at p. -/
def decS (s : Schema) (ws : List (BitVec 64)) (d : Nat) (t : Int) (p : Nat) : St (d + 1) :=
  (⟨0#64, ⟨#[]⟩, [], (List.range (typeL s t).length).map fun (i : Nat) => decF ws (decR s ws d) (fieldP s t i) (p + i)⟩ : Node (Node (St d)))
theorem decR_succ (s : Schema) (ws : List (BitVec 64)) (d : Nat) (ty : Int) (to n : Nat) : decR s ws (d + 1) ty to n = (List.range n).map fun (j : Nat) => decS s ws d ty (to + j * (typeL s ty).length) := rfl
theorem decR_len (s : Schema) (ws : List (BitVec 64)) (d : Nat) (ty : Int) (to n : Nat) : (decR s ws (d + 1) ty to n).length = n := by rw [decR_succ]; simp
theorem decS_kids (s : Schema) (ws : List (BitVec 64)) (d : Nat) (t : Int) (p : Nat) : Node.kids (decS s ws d t p) = (List.range (typeL s t).length).map fun (i : Nat) => decF ws (decR s ws d) (fieldP s t i) (p + i) := rfl

theorem runN_each {f : Nat → Nat → LS} : ∀ {n c c' : Nat}, runN f n c = (c', none) → ∀ i, i < n → ∃ a b, f i a = (b, none)
  | 0, _, _, _, i, hi => absurd hi (by omega)
  | n + 1, c, c', h, i, hi => by
    rw [runN] at h
    split at h
    · next c2 e =>
      by_cases hin : i = n
      · subst hin; exact ⟨_, _, h⟩
      · exact runN_each e i (by omega)
    · next c2 e2 e => cases h

/-- The words of a struct were looked at, and are right. -/
def VisOk (s : Schema) (ws : List (BitVec 64)) (k : Nat) (t : Int) (p : Nat) : Prop := p + (typeL s t).length ≤ ws.length ∧ ∃ c c', visN s ws k t p c = (c', none)
/-- A field's word is right: what it refers to is there. -/
def OneOk (s : Schema) (ws : List (BitVec 64)) (k : Nat) (fd : Int × Int) (p : Nat) : Prop :=
  fd.1 = 1 ∨ ws.getD p 0#64 = 0#64 ∨ (fd.1 ≠ 1 ∧ ws.getD p 0#64 ≠ 0#64 ∧ 0 < loN (ws.getD p 0#64) ∧ 0 < hiN (ws.getD p 0#64) ∧ hiN (ws.getD p 0#64) ≤ mostN fd.1 ∧
    ((fd.1 = 3 ∧ p + loN (ws.getD p 0#64) + hiN (ws.getD p 0#64) ≤ ws.length) ∨
     (fd.1 = 2 ∧ p + loN (ws.getD p 0#64) + (hiN (ws.getD p 0#64) + 7) / 8 ≤ ws.length ∧ textOk ((ws.drop (p + loN (ws.getD p 0#64))).take ((hiN (ws.getD p 0#64) + 7) / 8)) (hiN (ws.getD p 0#64) : Nat) = true) ∨
     (fd.1 ≠ 2 ∧ fd.1 ≠ 3 ∧ ∃ k', k = k' + 1 ∧ p + loN (ws.getD p 0#64) + hiN (ws.getD p 0#64) * (typeL s fd.2).length ≤ ws.length ∧ ∀ j, j < hiN (ws.getD p 0#64) → VisOk s ws k' fd.2 (p + loN (ws.getD p 0#64) + j * (typeL s fd.2).length))))

theorem vis_one {s : Schema} {ws : List (BitVec 64)} {k : Nat} {t : Int} {p : Nat} (h : VisOk s ws k t p) {i : Nat} (hi : i < (typeL s t).length) : OneOk s ws k (fieldP s t i) (p + i) := by
  obtain ⟨hl, c, c', hv⟩ := h
  unfold visN at hv
  obtain ⟨a, b, h1⟩ := runN_each hv i hi
  generalize fieldP s t i = fd at *
  unfold oneN at h1
  by_cases e1 : fd.1 = 1
  · exact .inl e1
  by_cases e0 : ws.getD (p + i) 0#64 = 0#64
  · exact .inr (.inl e0)
  rw [if_neg (by intro e; rcases e with e | e; exact e1 e; exact e0 e)] at h1
  split at h1
  · cases h1
  next hx =>
  refine .inr (.inr ⟨e1, e0, by omega, by omega, by omega, ?_⟩)
  generalize ws.getD (p + i) 0#64 = x at *
  unfold refN at h1
  by_cases e3 : fd.1 = 3
  · rw [if_pos e3] at h1
    exact .inl ⟨e3, (clV_none h1).2.1⟩
  rw [if_neg e3] at h1
  by_cases e2 : fd.1 = 2
  · rw [if_pos e2] at h1
    split at h1
    · next c2 e =>
      have hc := (clV_none e).2.1
      refine .inr (.inl ⟨e2, hc, ?_⟩)
      injection h1 with h1 h2
      split at h2
      · next ht => exact ht
      · cases h2
    · cases h1
  rw [if_neg e2] at h1
  refine .inr (.inr ⟨e2, e3, ?_⟩)
  cases k with
  | zero => simp only [subN] at h1; cases h1
  | succ k =>
    rw [subN_succ] at h1
    simp only at h1
    split at h1
    · next c2 e =>
      have hc := (clV_none e).2.1
      refine ⟨k, rfl, hc, fun j hj => ?_⟩
      obtain ⟨a2, b2, h2⟩ := runN_each h1 j hj
      refine ⟨?_, a2, b2, h2⟩
      have hmul : j * (typeL s fd.2).length + (typeL s fd.2).length ≤ hiN x * (typeL s fd.2).length := by
        rw [← Nat.succ_mul]; exact Nat.mul_le_mul_right _ hj
      omega
    · cases h1

/-- Words that are right: they are of a type, and so many. -/
theorem all_vis {s : Schema} {ws : List (BitVec 64)} (h : (allW s ws).1 = 0) : rightB s = true ∧ 0 < ws.length ∧ ws.length ≤ 200 ∧ loN (ws.getD 0 0#64) = ws.length ∧ hiN (ws.getD 0 0#64) < s.length ∧ VisOk s ws 4 (hiN (ws.getD 0 0#64) : Nat) 1 := by
  unfold allW at h
  split at h
  · simp at h
  next hr =>
  split at h
  · simp at h
  next hl =>
  split at h
  · next c e =>
    unfold runW at e
    split at e
    · cases e
    next h0 =>
    split at e
    · next c2 e2 =>
      have hc := (clV_none e2).2.1
      exact ⟨by simpa using hr, by omega, by omega, by omega, by omega, by omega, _, _, e⟩
    · cases e
  · next c e' p e =>
    exfalso
    have hb := runW_bd (by simpa using hr) (ws := ws) (by omega)
    rw [e] at hb
    have := hb.code e' p rfl
    simp only at h
    omega

theorem field_kd {s : Schema} (hr : rightB s = true) {t : Int} {i : Nat} (hi : i < (typeL s t).length) : 1 ≤ (fieldP s t i).1 ∧ (fieldP s t i).1 ≤ 5 ∧ 0 ≤ (fieldP s t i).2 ∧ (fieldP s t i).2 < s.length := by
  obtain ⟨q, hq⟩ := get_lt hi
  rw [fieldP_at hq]
  by_cases ht : 0 ≤ t ∧ t < s.length
  · obtain ⟨l, hl⟩ := get_lt (l := s) (i := t.toNat) (by omega)
    have e := typeL_at hl
    rw [show ((t.toNat : Nat) : Int) = t by omega] at e
    rw [e] at hq
    obtain ⟨a, b, c, d, _⟩ := right_at hr hl hq
    exact ⟨a, b, c, d⟩
  · rw [typeL_out ht] at hi; simp at hi

theorem textV_size {ws : List (BitVec 64)} {n : Nat} (h : textOk ws n = true) : (textV ws n).length = n := by
  unfold textV
  rw [if_pos h, List.length_take, bytesV_length, Int.toNat_natCast]
  unfold textOk at h
  simp only [Bool.and_eq_true, decide_eq_true_eq] at h
  have := h.1.2
  unfold countV at this
  split at this <;> omega

/-- A field that is decoded is as its kind may be. -/
theorem decF_has {s : Schema} {ws : List (BitVec 64)} {k : Nat} {fd : Int × Int} {p : Nat} (hk : 1 ≤ fd.1 ∧ fd.1 ≤ 5) (h : OneOk s ws k fd p) : hasB fd.1 (decF ws (decR s ws k) fd p) = true := by
  unfold decF
  unfold OneOk at h
  generalize ws.getD p 0#64 = x at *
  by_cases e1 : fd.1 = 1
  · rw [if_pos e1, e1]; rfl
  rw [if_neg e1]
  by_cases e0 : x = 0#64
  · rw [if_pos e0]
    unfold hasB hasV
    have : (⟨#[]⟩ : ByteArray).size = 0 := rfl
    simp [this, e1]
    omega
  rw [if_neg e0]
  rcases h with h | h | ⟨_, _, h1, h2, h3, h4⟩
  · exact absurd h e1
  · exact absurd h e0
  have hz : (⟨#[]⟩ : ByteArray).size = 0 := rfl
  by_cases e2 : fd.1 = 2
  · rw [if_pos e2]
    rcases h4 with h4 | h4 | h4
    · omega
    · have ht := textV_size h4.2.2
      have hsz : (⟨(textV ((ws.drop (p + loN (x))).take ((hiN (x) + 7) / 8)) (hiN (x) : Nat)).toArray⟩ : ByteArray).size = hiN (x) := by
        show (List.toArray _).size = _
        rw [List.size_toArray]; exact ht
      unfold mostN at h3
      rw [if_pos e2] at h3
      unfold hasB hasV
      rw [hsz]
      simp [e2]
      omega
    · exact absurd e2 h4.1
  rw [if_neg e2]
  by_cases e3 : fd.1 = 3
  · rw [if_pos e3]
    unfold mostN at h3
    rw [if_neg e2, if_neg (by omega)] at h3
    unfold hasB hasV
    simp [e3, hz]
    omega
  rw [if_neg e3]
  rcases h4 with h4 | h4 | ⟨_, _, k', rfl, hc, hv⟩
  · exact absurd h4.1 e3
  · exact absurd h4.1 e2
  unfold hasB
  simp only [decR_len]
  unfold hasV mostN at *
  rw [if_neg e2] at h3
  by_cases e4 : fd.1 = 4
  · rw [if_pos e4] at h3
    simp [e4, hz]
    exact h3
  · rw [if_neg e4] at h3
    have e5 : fd.1 = 5 := by omega
    simp [e5, hz]
    exact h3

/-- What right words are decoded to is a struct of their type. -/
theorem dec_code {s : Schema} (hr : rightB s = true) {ws : List (BitVec 64)} : ∀ (k left : Nat) (t : Int) (p : Nat), VisOk s ws k t p → k + 1 ≤ left → codeT s (k + 1) left t (decS s ws k t p) = 0 := by
  intro k
  induction k with
  | zero =>
    intro left t p h hl
    rw [codeT, if_neg (by omega), if_neg (by rw [decS_kids]; simp [decS]; rfl)]
    refine firstE_none _ _ 0 fun i q hq => ?_
    rw [decS_kids, List.getElem?_map] at hq
    have hi : i < (typeL s t).length := by
      by_cases hi : i < (typeL s t).length
      · exact hi
      · rw [List.getElem?_eq_none (by simpa using hi)] at hq; simp at hq
    rw [List.getElem?_range hi] at hq
    simp only [Option.map_some, Option.some.injEq] at hq
    subst hq
    rw [Nat.zero_add, if_pos (decF_has (by have := field_kd hr hi; omega) (vis_one h hi))]
    refine firstE_none _ _ 0 fun j x hx => nomatch x
  | succ k ih =>
    intro left t p h hl
    rw [codeT, if_neg (by omega), if_neg (by rw [decS_kids]; simp [decS]; rfl)]
    refine firstE_none _ _ 0 fun i q hq => ?_
    rw [decS_kids, List.getElem?_map] at hq
    have hi : i < (typeL s t).length := by
      by_cases hi : i < (typeL s t).length
      · exact hi
      · rw [List.getElem?_eq_none (by simpa using hi)] at hq; simp at hq
    rw [List.getElem?_range hi] at hq
    simp only [Option.map_some, Option.some.injEq] at hq
    subst hq
    have hone := vis_one h hi
    rw [Nat.zero_add, if_pos (decF_has (by have := field_kd hr hi; omega) hone)]
    refine firstE_none _ _ 0 fun j x hx => ?_
    generalize fieldP s t i = fd at *
    unfold decF at hx
    split at hx
    · simp at hx
    split at hx
    · simp at hx
    split at hx
    · simp at hx
    split at hx
    · simp at hx
    rcases hone with ho | ho | ⟨_, _, h1, h2, h3, h4⟩
    · contradiction
    · contradiction
    rcases h4 with h4 | h4 | ⟨_, _, k', e, hc, hv⟩
    · exact absurd h4.1 (by assumption)
    · exact absurd h4.1 (by assumption)
    obtain rfl : k = k' := by omega
    simp only [decR_succ, List.getElem?_map] at hx
    have hj : j < hiN (ws.getD (p + i) 0#64) := by
      by_cases hj : j < hiN (ws.getD (p + i) 0#64)
      · exact hj
      · rw [List.getElem?_eq_none (by simpa using hj)] at hx; simp at hx
    rw [List.getElem?_range hj] at hx
    simp only [Option.map_some, Option.some.injEq] at hx
    subst hx
    exact ih (left - 1) _ _ (hv j hj) (by omega)
theorem dec_check {s : Schema} {ws : List (BitVec 64)} (h : (allW s ws).1 = 0) : checkC s 5 (hiN (ws.getD 0 0#64) : Nat) (decS s ws 4 (hiN (ws.getD 0 0#64) : Nat) 1) = 0 := by
  obtain ⟨hr, _, _, _, ht, hv⟩ := all_vis h
  rw [checkC, if_pos ⟨hr, by omega, by omega⟩]
  exact dec_code hr 4 5 _ 1 hv (by omega)

/-- A node of which only some parts are there. -/
theorem node_of {α : Type} {k : Node α} {x : BitVec 64} {b : ByteArray} {n : List (BitVec 64)} {l : List α} (h1 : k.num = x) (h2 : k.bytes = b) (h3 : k.nums = n) (h4 : k.kids = l) : (⟨x, b, n, l⟩ : Node α) = k := by
  subst h1 h2 h3 h4; rfl
theorem bytes_none {b : ByteArray} (h : b.size = 0) : b = ⟨#[]⟩ := by
  cases b with
  | mk a => congr 1; exact Array.eq_empty_of_size_eq_zero h

/-- A field that lies in its place is decoded to itself. -/
theorem decF_lie {s : Schema} {d left : Nat} {kd ty : Int} {k : Node (St d)} {ws : List (BitVec 64)} {p lo : Nat} (hb : hasB kd k = true) (hx : ∀ y ∈ k.kids, codeT s d left ty y = 0) (hL : ws.length ≤ 1000000)
    (h : LieF (typeL s ty).length (belowT d) (fun y p' lo' => LieS s d ty y ws p' lo') kd k ws p lo) (hpl : p < lo) (hll : lo + fszT d k ≤ ws.length)
    (ih : ∀ (j : Nat) (y : St d) (lo' : Nat), k.kids[j]? = some y → LieS s d ty y ws (lo + j * (typeL s ty).length) lo' → (decR s ws d ty lo k.kids.length)[j]? = some y) :
    decF ws (decR s ws d) (kd, ty) p = k := by
  unfold LieF at h
  unfold decF
  simp only
  by_cases k1 : kd = 1
  · obtain ⟨e1, e2, e3⟩ := hasB_num hb k1
    rw [if_pos k1] at h ⊢
    have e : ws.getD p 0#64 = k.num := by rw [List.getD_eq_getElem?_getD, h]; rfl
    rw [e]
    exact node_of rfl (bytes_none e1) (List.eq_nil_of_length_eq_zero e2) (List.eq_nil_of_length_eq_zero e3)
  rw [if_neg k1] at h ⊢
  have hfz : fszT d k = (k.bytes.size + 7) / 8 + k.nums.length + sumL (wordsT d) k.kids := rfl
  have H : ∀ n : Nat, RefW ws p lo n → n < 4294967296 → (n = 0 → ws.getD p 0#64 = 0#64) ∧ (0 < n → ws.getD p 0#64 ≠ 0#64 ∧ p + loN (ws.getD p 0#64) = lo ∧ hiN (ws.getD p 0#64) = n) := by
    intro n hr hn
    unfold RefW at hr
    have e : ws.getD p 0#64 = if n = 0 then 0#64 else refV ((lo : Int) - p) n := by rw [List.getD_eq_getElem?_getD, hr]; rfl
    rw [e]
    refine ⟨fun h0 => if_pos h0, fun h0 => ?_⟩
    have hpt := refV_parts (lo - p) n (by omega) (by omega)
    rw [show ((lo - p : Nat) : Int) = (lo : Int) - p by omega] at hpt
    rw [if_neg (by omega), hpt.1, hpt.2]
    refine ⟨fun e => ?_, by omega, rfl⟩
    rw [e, hi_zero] at hpt
    omega
  by_cases k2 : kd = 2
  · obtain ⟨e1, e2, e3, e4⟩ := hasB_bytes hb k2
    rw [if_pos k2] at h ⊢
    obtain ⟨h0, h1⟩ := H _ h.1 (by omega)
    by_cases hz : k.bytes.size = 0
    · rw [if_pos (h0 hz)]
      exact node_of e1 (bytes_none hz) (List.eq_nil_of_length_eq_zero e2) (List.eq_nil_of_length_eq_zero e3)
    · obtain ⟨g1, g2, g3⟩ := h1 (by omega)
      rw [if_neg g1, g2, g3]
      have hwl : (wordsV k.bytes.data.toList).length = (k.bytes.size + 7) / 8 := by rw [wordsV_len, bytes_len]
      have hh := (Pre.refl ws).has h.2 (by omega) (by rw [hwl]; omega)
      rw [hwl] at hh
      have ht := (words_text k.bytes.data.toList).2
      rw [bytes_len] at ht
      rw [hh, ht]
      exact node_of e1 rfl (List.eq_nil_of_length_eq_zero e2) (List.eq_nil_of_length_eq_zero e3)
  rw [if_neg k2] at h ⊢
  by_cases k3 : kd = 3
  · obtain ⟨e1, e2, e3, e4⟩ := hasB_nums hb k3
    rw [if_pos k3] at h ⊢
    obtain ⟨h0, h1⟩ := H _ h.1 (by omega)
    by_cases hz : k.nums.length = 0
    · rw [if_pos (h0 hz)]
      exact node_of e1 (bytes_none e2) (List.eq_nil_of_length_eq_zero hz) (List.eq_nil_of_length_eq_zero e3)
    · obtain ⟨g1, g2, g3⟩ := h1 (by omega)
      rw [if_neg g1, g2, g3, (Pre.refl ws).has h.2 (by omega) (by omega)]
      exact node_of e1 (bytes_none e2) rfl (List.eq_nil_of_length_eq_zero e3)
  rw [if_neg k3] at h ⊢
  obtain ⟨e0, e1, e2, e3, e4⟩ := hasB_kids hb k1 k2 k3
  obtain ⟨h0, h1⟩ := H _ h.1 (by omega)
  by_cases hz : k.kids.length = 0
  · rw [if_pos (h0 hz)]
    exact node_of e1 (bytes_none e2) (List.eq_nil_of_length_eq_zero e3) (List.eq_nil_of_length_eq_zero hz)
  · obtain ⟨g1, g2, g3⟩ := h1 (by omega)
    rw [if_neg g1, g2, g3]
    refine node_of e1 (bytes_none e2) (List.eq_nil_of_length_eq_zero e3) ?_
    cases d with
    | zero => obtain ⟨y, _⟩ := get_lt (l := k.kids) (i := 0) (by omega); exact nomatch y
    | succ d =>
      apply List.ext_getElem?
      intro j
      by_cases hj : j < k.kids.length
      · obtain ⟨y, hy⟩ := get_lt hj
        rw [hy]
        exact (ih j y _ hy (by have := h.2 j y hy; rwa [Nat.mul_comm] at this)).symm
      · rw [List.getElem?_eq_none (by omega), List.getElem?_eq_none (by rw [decR_len]; omega)]

/-- What lies in its place is decoded to itself. -/
theorem dec_lie {s : Schema} {ws : List (BitVec 64)} (hL : ws.length ≤ 1000000) : ∀ (d left : Nat) (t : Int) (v : St (d + 1)) (p lo : Nat), codeT s (d + 1) left t v = 0 → LieS s (d + 1) t v ws p lo → p + nkT (d + 1) v ≤ lo → lo + belowT (d + 1) v ≤ ws.length → decS s ws d t p = v := by
  intro d
  induction d with
  | zero =>
    intro left t v p lo hc hlie hpl hll
    obtain ⟨_, g1, g2, g3, g4, hf⟩ := code_struct hc
    refine node_of (k := (v : Node (Node (St 0)))) g1 (bytes_none g2) (List.eq_nil_of_length_eq_zero g3) ?_
    refine Eq.symm ?_
    apply List.ext_getElem?
    intro i
    by_cases hi : i < (typeL s t).length
    · obtain ⟨k, hk⟩ := get_lt (l := Node.kids v) (i := i) (by omega)
      obtain ⟨hb, hx⟩ := hf i k hk
      have hle := sumL_take_at (fszT 0) (Node.kids v) i k hk
      have hlen : p + (Node.kids v).length ≤ lo := hpl
      have hll' : lo + sumL (fszT 0) (Node.kids v) ≤ ws.length := hll
      rw [List.getElem?_map, List.getElem?_range hi]
      simp only [Option.map_some]
      refine Eq.trans ?_ hk.symm
      congr 1
      have hl := hlie i k hk
      generalize hlo : lo + sumL (fszT 0) ((Node.kids v).take i) = lo2 at *
      exact decF_lie (kd := (fieldP s t i).1) (ty := (fieldP s t i).2) hb hx hL hl (by omega) (by omega) (fun j y => nomatch y)
    · have hn : (Node.kids v)[i]? = none := List.getElem?_eq_none (by omega)
      rw [List.getElem?_eq_none (by simpa using hi)]
      exact hn.symm
  | succ d ih =>
    intro left t v p lo hc hlie hpl hll
    obtain ⟨_, g1, g2, g3, g4, hf⟩ := code_struct hc
    refine node_of (k := (v : Node (Node (St (d + 1))))) g1 (bytes_none g2) (List.eq_nil_of_length_eq_zero g3) ?_
    refine Eq.symm ?_
    apply List.ext_getElem?
    intro i
    by_cases hi : i < (typeL s t).length
    · obtain ⟨k, hk⟩ := get_lt (l := Node.kids v) (i := i) (by omega)
      obtain ⟨hb, hx⟩ := hf i k hk
      have hle := sumL_take_at (fszT (d + 1)) (Node.kids v) i k hk
      have hlen : p + (Node.kids v).length ≤ lo := hpl
      have hll' : lo + sumL (fszT (d + 1)) (Node.kids v) ≤ ws.length := hll
      rw [List.getElem?_map, List.getElem?_range hi]
      simp only [Option.map_some]
      refine Eq.trans ?_ hk.symm
      congr 1
      have hl := hlie i k hk
      generalize hlo : lo + sumL (fszT (d + 1)) ((Node.kids v).take i) = lo2 at *
      generalize fieldP s t i = fd at *
      have hfz : fszT (d + 1) k = (k.bytes.size + 7) / 8 + k.nums.length + sumL (wordsT (d + 1)) k.kids := rfl
      refine decF_lie (kd := fd.1) (ty := fd.2) hb hx hL hl (by omega) (by omega) (fun j y lo' hy hly => ?_)
      have hj := (List.getElem?_eq_some_iff.1 hy).1
      rw [decR_succ, List.getElem?_map, List.getElem?_range hj]
      simp only [Option.map_some]
      congr 1
      have hcy := hx y (List.mem_of_getElem? hy)
      -- where it lies, once more
      have hsw := sum_words (s := s) (d := d + 1) (left := left - 1) (ty := fd.2) k.kids hx
      have hbl := sumL_take_at (belowT (d + 1)) k.kids j y hy
      have hmul : (typeL s fd.2).length * j + (typeL s fd.2).length ≤ (typeL s fd.2).length * k.kids.length := by
        rw [← Nat.mul_succ]; exact Nat.mul_le_mul_left _ hj
      have hnk := nk_code hcy
      have hk123 : fd.1 ≠ 1 ∧ fd.1 ≠ 2 ∧ fd.1 ≠ 3 := by
        refine ⟨fun e => ?_, fun e => ?_, fun e => ?_⟩
        · have := (hasB_num hb e).2.2; omega
        · have := (hasB_bytes hb e).2.2.1; omega
        · have := (hasB_nums hb e).2.2.1; omega
      unfold LieF at hl
      rw [if_neg hk123.1, if_neg hk123.2.1, if_neg hk123.2.2] at hl
      have hl2 := hl.2 j y hy
      rw [Nat.mul_comm j]
      exact ih (left - 1) fd.2 y _ _ hcy hl2 (by omega) (by omega)
    · have hn : (Node.kids v)[i]? = none := List.getElem?_eq_none (by omega)
      rw [List.getElem?_eq_none (by simpa using hi)]
      exact hn.symm

/-- What was built is decoded, the same, of the same type. -/
theorem dec_built {s : Schema} {d t : Nat} {X : St (d + 1)} (ht : t < s.length) (hs : s.length ≤ 8) (hc : codeT s (d + 1) 5 t X = 0) (hl : (buildW s d t X).length ≤ 200) :
    hiN ((buildW s d t X).getD 0 0#64) = t ∧ decS s (buildW s d t X) d t 1 = X := by
  obtain ⟨h1, h2, h3⟩ := build_lie hc
  have hw : wordsT (d + 1) X = (Node.kids X).length + belowT (d + 1) X := words_below (d + 1) X
  refine ⟨?_, dec_lie (by omega) d 5 t X 1 _ hc h3 (by show 1 + (Node.kids X).length ≤ _; omega) (by rw [h1, hw]; omega)⟩
  rw [List.getD_eq_getElem?_getD, h2]
  exact (refV_parts _ t (by omega) (by omega)).2
end SDecV

end Go.Proofs.YtogaclolodlnbaaDoor


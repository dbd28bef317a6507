/- Looking at a message that was built, or at its first words. No program in sight. -/
import Derived.Test.YtblbhlgihlgncaaDoorValV
import Derived.Test.YtblbhlgihlgncaaDoorGj
set_option linter.unusedVariables false
set_option linter.unusedSimpArgs false
namespace Go.Proofs.YtblbhlgihlgncaaDoor
section SValL
open Go.RowKit

theorem refV_parts (a n : Nat) (ha : a < 4294967296) (hn : n < 4294967296) : loN (refV (a : Int) (n : Int)) = a ∧ hiN (refV (a : Int) (n : Int)) = n := by
  have h := refV_nat (a : Int) (n : Int)
  unfold loN hiN
  rw [h]
  omega
theorem hi_zero : hiN 0#64 = 0 := by decide

/-- All is claimed, in order, as far as there are words. -/
def Fits (L hi c' : Nat) (r : LS) : Prop := if hi ≤ L then r = (c', none) else ∃ c q, r = (c, some (23, q))
theorem Fits.yes {L hi c' : Nat} {r : LS} (h : Fits L hi c' r) (hl : hi ≤ L) : r = (c', none) := by unfold Fits at h; rwa [if_pos hl] at h
theorem Fits.no {L hi c' : Nat} {r : LS} (h : Fits L hi c' r) (hl : L < hi) : ∃ c q, r = (c, some (23, q)) := by unfold Fits at h; rwa [if_neg (by omega)] at h
theorem runN_fits {L : Nat} {f : Nat → Nat → LS} {lo cc : Nat → Nat} : ∀ (n : Nat), (∀ i, i < n → lo i ≤ lo (i + 1)) → (∀ i, i < n → lo i ≤ L → Fits L (lo (i + 1)) (cc (i + 1)) (f i (cc i))) → lo 0 ≤ L → Fits L (lo n) (cc n) (runN f n (cc 0))
  | 0, _, _, h0 => by unfold Fits; rw [if_pos h0]; rfl
  | n + 1, hm, h, h0 => by
    have ih := runN_fits n (fun i hi => hm i (by omega)) (fun i hi => h i (by omega)) h0
    by_cases hn : lo n ≤ L
    · rw [runN_ok (ih.yes hn)]
      exact h n (by omega) hn
    · obtain ⟨c, q, e⟩ := ih.no (by omega)
      have := hm n (by omega)
      unfold Fits
      rw [if_neg (by omega)]
      exact ⟨c, q, runN_bad e 1⟩
theorem clV_fits {L lo n p c : Nat} (h0 : c + 1 ≤ lo) (hl : lo ≤ L) : Fits L (lo + n) (c + n) (clV L c lo n p) := by
  unfold Fits clV
  by_cases h : lo + n ≤ L
  · rw [if_pos h, if_neg (by omega), if_neg (by omega)]
  · rw [if_neg h, if_pos (by omega)]
    exact ⟨_, _, rfl⟩

/-- The first words of a message, but the first one, which may be any. -/
def Pre (ws xs : List (BitVec 64)) : Prop := xs.length ≤ ws.length ∧ ∀ q, 1 ≤ q → q < xs.length → xs[q]? = ws[q]?
theorem Pre.refl (ws : List (BitVec 64)) : Pre ws ws := ⟨Nat.le_refl _, fun _ _ _ => rfl⟩
theorem Pre.has {ws xs : List (BitVec 64)} (h : Pre ws xs) {lo : Nat} {ys : List (BitVec 64)} (hy : HasW ws lo ys) (h1 : 1 ≤ lo) (hl : lo + ys.length ≤ xs.length) : (xs.drop lo).take ys.length = ys := by
  apply List.ext_getElem?
  intro j
  by_cases hj : j < ys.length
  · obtain ⟨x, hx⟩ := get_lt hj
    rw [List.getElem?_take, if_pos hj, List.getElem?_drop, h.2 _ (by omega) (by omega), hy j x hx, hx]
  · rw [List.getElem?_eq_none (by simp; omega), List.getElem?_eq_none (by omega)]

section
variable {s : Schema} {ws xs : List (BitVec 64)}
/-- A field that lies in its place. -/
theorem one_fits {d k : Nat} {kd ty : Int} {x : Node (St d)} {p lo c : Nat} (hp : Pre ws xs) (hL : xs.length ≤ 1000000) (hb : hasB kd x = true) (hx : ∀ y ∈ x.kids, codeT s d k ty y = 0)
    (ih : ∀ (y : St d) (k' p lo c : Nat), codeT s d (k' + 1) ty y = 0 → LieS s d ty y ws p lo → 1 ≤ p → p + nkT d y ≤ lo → c + 1 ≤ lo → lo ≤ xs.length → Fits xs.length (lo + belowT d y) (c + belowT d y) (visN s xs k' ty p c))
    (h : LieF (typeL s ty).length (belowT d) (fun y p' lo' => LieS s d ty y ws p' lo') kd x ws p lo) (h1 : 1 ≤ p) (hpl : p < lo) (hcl : c + 1 ≤ lo) (hl : lo ≤ xs.length) :
    Fits xs.length (lo + fszT d x) (c + fszT d x) (oneN s xs (subN s xs k) (kd, ty) p c) := by
  have hfz : fszT d x = (x.bytes.size + 7) / 8 + x.nums.length + sumL (wordsT d) x.kids := rfl
  have hxp := hp.2 p h1 (by omega)
  unfold LieF at h
  by_cases k1 : kd = 1
  · obtain ⟨e1, e2, e3⟩ := hasB_num hb k1
    have e4 : x.kids = [] := List.eq_nil_of_length_eq_zero e3
    rw [e1, e2, e4, sumL_nil] at hfz
    unfold oneN
    rw [if_pos (.inl k1)]
    unfold Fits
    rw [hfz, if_pos (by omega)]
    rfl
  -- a word that refers to n things
  have H : ∀ n : Nat, RefW ws p lo n → n ≤ mostN kd → (n = 0 → fszT d x = 0) → (0 < n → Fits xs.length (lo + fszT d x) (c + fszT d x) (refN s xs (subN s xs k) kd ty p lo n c)) → Fits xs.length (lo + fszT d x) (c + fszT d x) (oneN s xs (subN s xs k) (kd, ty) p c) := by
    intro n hr hm h0 hf
    unfold RefW at hr
    rw [← hxp] at hr
    have hd : xs.getD p 0#64 = if n = 0 then 0#64 else refV ((lo : Int) - p) n := by rw [List.getD_eq_getElem?_getD, hr]; rfl
    unfold oneN
    rw [hd]
    by_cases hn : n = 0
    · rw [if_pos hn, if_pos (.inr rfl)]
      unfold Fits
      rw [h0 hn, if_pos (by omega)]
      rfl
    · have hm40 : mostN kd ≤ 40 := by unfold mostN; split; omega; split <;> omega
      have hpt := refV_parts (lo - p) n (by omega) (by omega)
      rw [show ((lo - p : Nat) : Int) = (lo : Int) - p by omega] at hpt
      rw [if_neg hn]
      have hne : ¬ refV ((lo : Int) - p) n = 0#64 := by
        intro e
        rw [e, hi_zero] at hpt
        omega
      rw [if_neg (by intro e; rcases e with e | e; exact k1 e; exact hne e), hpt.1, hpt.2, if_neg (by simp only; omega), show p + (lo - p) = lo by omega]
      exact hf (by omega)
  by_cases k2 : kd = 2
  · obtain ⟨e1, e2, e3, e4⟩ := hasB_bytes hb k2
    have e5 : x.kids = [] := List.eq_nil_of_length_eq_zero e3
    rw [e2, e5, sumL_nil] at hfz
    rw [if_neg k1, if_pos k2] at h
    refine H _ h.1 (by unfold mostN; rw [if_pos k2]; exact e4) (fun e => by rw [hfz, e]) (fun hn => ?_)
    have hfz2 : fszT d x = (x.bytes.size + 7) / 8 := by omega
    unfold refN
    rw [if_neg (by omega), if_pos k2, hfz2]
    have hc := clV_fits (L := xs.length) (lo := lo) (n := (x.bytes.size + 7) / 8) (p := p) hcl hl
    by_cases hh : lo + (x.bytes.size + 7) / 8 ≤ xs.length
    · rw [hc.yes hh]
      have hwl : (wordsV x.bytes.data.toList).length = (x.bytes.size + 7) / 8 := by rw [wordsV_len, bytes_len]
      have hh2 := hp.has h.2 (by omega) (by rw [hwl]; exact hh)
      rw [hwl] at hh2
      have ht := (words_text x.bytes.data.toList).1
      rw [bytes_len] at ht
      simp only [hh2, ht, if_true]
      unfold Fits
      rw [if_pos hh]
    · obtain ⟨c2, q, e⟩ := hc.no (by omega)
      rw [e]
      unfold Fits
      rw [if_neg hh]
      exact ⟨c2, q, rfl⟩
  by_cases k3 : kd = 3
  · obtain ⟨e1, e2, e3, e4⟩ := hasB_nums hb k3
    have e5 : x.kids = [] := List.eq_nil_of_length_eq_zero e3
    rw [e2, e5, sumL_nil] at hfz
    rw [if_neg k1, if_neg k2, if_pos k3] at h
    refine H _ h.1 (by unfold mostN; rw [if_neg k2, if_neg (by omega)]; exact e4) (fun e => by rw [hfz, e]) (fun hn => ?_)
    unfold refN
    rw [if_pos k3, show fszT d x = x.nums.length by omega]
    exact clV_fits hcl hl
  obtain ⟨e0, e1, e2, e3, e4⟩ := hasB_kids hb k1 k2 k3
  rw [if_neg k1, if_neg k2, if_neg k3] at h
  have hsw := sum_words (s := s) (d := d) (left := k) (ty := ty) x.kids hx
  have hfz2 : fszT d x = (typeL s ty).length * x.kids.length + sumL (belowT d) x.kids := by rw [hfz, e2, e3, hsw]; omega
  refine H _ h.1 ?_ (fun e => ?_) (fun hn => ?_)
  · unfold mostN
    rw [if_neg k2]
    rcases e0 with rfl | rfl
    · exact (hasV_4 hb).2.2.2
    · exact e4
  · rw [hfz2, List.eq_nil_of_length_eq_zero e, sumL_nil]; rfl
  obtain ⟨y0, hy0⟩ := get_lt hn
  have hc0 := hx y0 (List.mem_of_getElem? hy0)
  obtain ⟨k', rfl⟩ : ∃ k', k = k' + 1 := by
    cases d with
    | zero => exact nomatch y0
    | succ d => have := (code_struct hc0).1; exact ⟨k - 1, by omega⟩
  unfold refN
  rw [if_neg k3, if_neg k2, subN_succ, Nat.mul_comm x.kids.length]
  simp only
  have hc := clV_fits (L := xs.length) (lo := lo) (n := (typeL s ty).length * x.kids.length) (p := p) hcl hl
  by_cases hh : lo + (typeL s ty).length * x.kids.length ≤ xs.length
  · rw [hc.yes hh]
    simp only
    have hr := runN_fits (L := xs.length) (f := fun j c => visN s xs k' ty (lo + j * (typeL s ty).length) c) (lo := fun j => lo + (typeL s ty).length * x.kids.length + sumL (belowT d) (x.kids.take j)) (cc := fun j => c + (typeL s ty).length * x.kids.length + sumL (belowT d) (x.kids.take j)) x.kids.length
      (fun j hj => by
        obtain ⟨y, hy⟩ := get_lt hj
        have := sumL_succ (belowT d) x.kids j y hy
        omega)
      (fun j hj hlj => by
        obtain ⟨y, hy⟩ := get_lt hj
        have hcy := hx y (List.mem_of_getElem? hy)
        have hs := sumL_succ (belowT d) x.kids j y hy
        have hmul : (typeL s ty).length * j + (typeL s ty).length ≤ (typeL s ty).length * x.kids.length := by
          rw [← Nat.mul_succ]; exact Nat.mul_le_mul_left _ hj
        have hnk := nk_code hcy
        have := ih y k' (lo + (typeL s ty).length * j) _ (c + (typeL s ty).length * x.kids.length + sumL (belowT d) (x.kids.take j)) hcy (h.2 j y hy) (by omega) (by omega) (by omega) hlj
        rw [hs, Nat.mul_comm j, ← Nat.add_assoc, ← Nat.add_assoc]
        exact this)
      (by simp only [List.take_zero, sumL_nil]; omega)
    simp only [List.take_zero, sumL_nil, Nat.add_zero, List.take_length] at hr
    rw [hfz2, ← Nat.add_assoc, ← Nat.add_assoc]
    exact hr
  · obtain ⟨c2, q, e⟩ := hc.no (by omega)
    rw [e]
    unfold Fits
    rw [if_neg (by omega)]
    exact ⟨c2, q, rfl⟩

/-- A struct that lies in its place. -/
theorem vis_fits (hp : Pre ws xs) (hL : xs.length ≤ 1000000) : ∀ (d k : Nat) (t : Int) (v : St d) (p lo c : Nat), codeT s d (k + 1) t v = 0 → LieS s d t v ws p lo → 1 ≤ p → p + nkT d v ≤ lo → c + 1 ≤ lo → lo ≤ xs.length → Fits xs.length (lo + belowT d v) (c + belowT d v) (visN s xs k t p c) := by
  intro d
  induction d with
  | zero => intro _ _ v; exact nomatch v
  | succ d ih =>
    intro k t v p lo c hc hlie h1 hpl hcl hl
    obtain ⟨_, _, _, _, hlen, hf⟩ := code_struct hc
    unfold visN
    rw [← hlen]
    have hr := runN_fits (L := xs.length) (f := fun i c => oneN s xs (subN s xs k) (fieldP s t i) (p + i) c) (lo := fun i => lo + sumL (fszT d) ((Node.kids v).take i)) (cc := fun i => c + sumL (fszT d) ((Node.kids v).take i)) (Node.kids v).length
      (fun i hi => by
        obtain ⟨y, hy⟩ := get_lt hi
        have := sumL_succ (fszT d) (Node.kids v) i y hy
        omega)
      (fun i hi hli => by
        obtain ⟨y, hy⟩ := get_lt hi
        obtain ⟨hb, hx⟩ := hf i y hy
        have hs := sumL_succ (fszT d) (Node.kids v) i y hy
        have hn : nkT (d + 1) v = (Node.kids v).length := rfl
        have := one_fits (c := c + sumL (fszT d) ((Node.kids v).take i)) (k := k) hp hL hb hx (fun y k' p lo c a1 a2 a3 a4 a5 a6 => ih k' _ y p lo c a1 a2 a3 a4 a5 a6) (hlie i y hy) (by omega) (by omega) (by omega) hli
        rw [hs, ← Nat.add_assoc, ← Nat.add_assoc]
        exact this)
      (by simp only [List.take_zero, sumL_nil]; omega)
    simp only [List.take_zero, sumL_nil, Nat.add_zero, List.take_length] at hr
    exact hr
end
end SValL

end Go.Proofs.YtblbhlgihlgncaaDoor


/- The document's Size, of trees; how great it is. -/
import Derived.Test.YtmcpanjpjnlleaaDoorRWords
set_option linter.unusedVariables false
namespace Go.Proofs.YtmcpanjpjnlleaaDoor
open Go.RowKit

theorem firstE_zero {α : Type} (f : Nat → α → Int) : ∀ (l : List α) (i : Nat), firstE f i l = 0 → ∀ (j : Nat) (x : α), l[j]? = some x → f (i + j) x = 0
  | [], _, _, j, x, h => by simp at h
  | y :: l, i, h0, j, x, h => by
    simp only [firstE] at h0
    by_cases hy : f i y = 0
    · rw [if_pos hy] at h0
      cases j with
      | zero => simp at h; subst h; exact hy
      | succ j =>
        have := firstE_zero f l (i + 1) h0 j x (by simpa using h)
        rw [show i + (j + 1) = i + 1 + j by omega]; exact this
    · rw [if_neg hy] at h0; exact absurd h0 hy

theorem sumL_le {α : Type} (f : α → Nat) (b : Nat) (l : List α) (h : ∀ x ∈ l, f x ≤ b) : sumL f l ≤ l.length * b := by
  have key : ∀ (l : List α) (m : Nat), (∀ x ∈ l, f x ≤ b) → l.foldl (fun m x => m + f x) m ≤ m + l.length * b := by
    intro l
    induction l with
    | nil => intro m _; simp
    | cons x l ih =>
      intro m hx
      have h1 := ih (m + f x) (fun y hy => hx y (by simp [hy]))
      have h2 := hx x (by simp)
      simp only [List.foldl_cons, List.length_cons, Nat.add_mul, Nat.one_mul]
      omega
  have := key l 0 h
  simpa [sumL] using this

def wB : Nat → Nat
  | 0 => 0
  | n + 1 => 6 + 6 * (17 + 12 * wB n)

theorem typeL_len {s : Schema} (hr : rightB s = true) (t : Int) : (typeL s t).length ≤ 6 := by
  rw [rightB, Bool.and_eq_true, List.all_eq_true] at hr
  unfold typeL
  split
  · next h =>
    have hlt : t.toNat < s.length := by omega
    obtain ⟨l, hl⟩ := get_lt hlt
    rw [List.getD_eq_getElem?_getD, hl]
    have := hr.2 l (List.mem_of_getElem? hl)
    rw [lOk, Bool.and_eq_true, decide_eq_true_eq] at this
    simpa using this.1.2
  · simp

theorem hasV_le {kind : Int} {x : BitVec 64} {nb nn nk : Nat} (h : hasV kind x nb nn nk = true) : nb ≤ 40 ∧ nn ≤ 12 ∧ nk ≤ 12 := by
  unfold hasV at h
  repeat' split at h
  all_goals (simp at h; try omega)
theorem hasB_le {K : Type} {kind : Int} {k : Node K} (h : hasB kind k = true) : k.bytes.size ≤ 40 ∧ k.nums.length ≤ 12 ∧ k.kids.length ≤ 12 := hasV_le h

theorem words_le {s : Schema} (hr : rightB s = true) : ∀ (d left : Nat) (t : Int) (v : St d), codeT s d left t v = 0 → wordsT d v ≤ wB left
  | 0, _, _, v, _ => nomatch v
  | d + 1, left, t, v, h => by
    rw [codeT] at h
    by_cases h0 : left = 0
    · rw [if_pos h0] at h; exact absurd h (by decide)
    · rw [if_neg h0] at h
      by_cases h1 : ¬ Node.num v = 0#64 ∨ ¬ (Node.bytes v).size = 0 ∨ ¬ (Node.nums v).length = 0 ∨ ¬ (Node.kids v).length = (typeL s t).length
      · rw [if_pos h1] at h; exact absurd h (by decide)
      · rw [if_neg h1] at h
        have hz := firstE_zero _ _ _ h
        have hlen : (Node.kids v).length ≤ 6 := by
          have : (Node.kids v).length = (typeL s t).length := by omega
          rw [this]; exact typeL_len hr t
        have hf : ∀ k ∈ Node.kids v, wordsF (wordsT d) k ≤ 17 + 12 * wB (left - 1) := by
          intro k hk
          obtain ⟨i, hi, e⟩ := List.mem_iff_getElem.1 hk
          have hki : (Node.kids v)[i]? = some k := by rw [List.getElem?_eq_getElem hi, e]
          have h2 := hz i k hki
          by_cases hh : hasB (fieldP s t ((0 + i : Nat) : Int)).1 k = true
          · rw [if_pos hh] at h2
            have hz2 := firstE_zero _ _ _ h2
            obtain ⟨b1, b2, b3⟩ := hasB_le hh
            have hs := sumL_le (wordsT d) (wB (left - 1)) k.kids (fun x hx => by
              obtain ⟨j, hj, e⟩ := List.mem_iff_getElem.1 hx
              exact words_le hr d (left - 1) _ x (hz2 j x (by rw [List.getElem?_eq_getElem hj, e])))
            have hm : k.kids.length * wB (left - 1) ≤ 12 * wB (left - 1) := Nat.mul_le_mul_right _ b3
            unfold wordsF
            omega
          · rw [if_neg hh] at h2; exact absurd h2 (by decide)
        have hs := sumL_le (wordsF (wordsT d)) (17 + 12 * wB (left - 1)) (Node.kids v) hf
        have hm : (Node.kids v).length * (17 + 12 * wB (left - 1)) ≤ 6 * (17 + 12 * wB (left - 1)) := Nat.mul_le_mul_right _ hlen
        rw [wordsT_succ]
        obtain ⟨m, rfl⟩ : ∃ m, left = m + 1 := ⟨left - 1, by omega⟩
        simp only [wB, Nat.add_sub_cancel] at *
        omega

theorem words_lim {s : Schema} {d : Nat} {t : Int} {v : St d} (h : checkC s d t v = 0) : wordsT d v ≤ LIM := by
  unfold checkC at h
  split at h
  · next hr => exact Nat.le_trans (words_le hr.1 d 5 t v h) (by decide)
  · exact absurd h (by decide)

def sizeT (s : Schema) (d : Nat) (t : Int) (v : St d) : Nat := if checkC s d t v = 0 then 1 + wordsT d v else 0

set_option maxHeartbeats 2000000 in
theorem rsize_any (s : Schema) (sv : Value) (d : Nat) (t : Int) (v : St d) (cs : List Value) (w : World) (hs : Sch w sv s) (h : RdS d w cs v) :
    Calls Tryd.prog 35 #[sv, .int .i64 t, .agg cs.toArray] w fun r w' => r = .returned (.int .i64 (sizeT s d t v)) ∧ Below w.heap.size w w' := by
  cases d with
  | zero => exact nomatch v
  | succ d =>
    obtain ⟨a2, p2, a, cap, hcs, hbs, hn, hk, hnm, hkm⟩ := RdN.open h
    subst hcs
    obtain ⟨w1, hw1, hb1, hlt1, hbox⟩ := boxed w #[U (Node.num v), .string (Node.bytes v), .slice a2 (Node.nums v).length p2, .slice a (Node.kids v).length cap] 34
    have x0 : w1.cell? ⟨w.heap.size, 0, none⟩ = some (U (Node.num v)) := hbox 0
    have x1 : w1.cell? ⟨w.heap.size, 1, none⟩ = some (.string (Node.bytes v)) := hbox 1
    have x2 : w1.cell? ⟨w.heap.size, 2, none⟩ = some (.slice a2 (Node.nums v).length p2) := hbox 2
    have x3 : w1.cell? ⟨w.heap.size, 3, none⟩ = some (.slice a (Node.kids v).length cap) := hbox 3
    have h1 := h.below hb1 (Nat.le_refl _)
    have hck := rtcheck_any s sv (d + 1) t v _ w1 (hs.below hb1 (Nat.le_refl _)) h1
    have Hw := hid (fun (hc : checkC s (d + 1) t v = 0) W (hW : Below w1.heap.size w1 W) => words_any (d + 1) v (words_lim hc) _ W (h1.below hW (Nat.le_refl _)))
    have Hs := hid (fun (hc : checkC s (d + 1) t v = 0) => show sizeT s (d + 1) t v = 1 + wordsT (d + 1) v by rw [sizeT, if_pos hc])
    have Hs0 := hid (fun (hc : ¬ checkC s (d + 1) t v = 0) => show sizeT s (d + 1) t v = 0 by rw [sizeT, if_neg hc])
    have Hlim := hid (fun (hc : checkC s (d + 1) t v = 0) => words_lim hc)
    clear hs h h1 hk hn hbox hbs
    by_cases hc : checkC s (d + 1) t v = 0
    · have hw := Hw.out hc
      have Hst := hid (Hs.out hc)
      have hl1 := Hlim.out hc
      have hl2 := lim_le
      have hl3 : wordsT (d + 1) v ≤ 4611686018427387904 := by omega
      rw [hc] at hck
      clear hc hl1 hl2 Hlim Hs Hs0 Hw
      generalize wordsT (d + 1) v = wn at *
      go_enter Tryd.func35, Tryd.ntmps35
      go_wp2_with fail
      ((refine hck.mono ?_); rintro r1 w2 ⟨rfl, hb2⟩)
      replace x0 := (hb2.cell hlt1).trans x0
      replace x1 := (hb2.cell hlt1).trans x1
      replace x2 := (hb2.cell hlt1).trans x2
      replace x3 := (hb2.cell hlt1).trans x3
      clear hw1
      go_wp2_with fail
      ((refine (hw _ hb2).mono ?_); rintro r2 w3 ⟨rfl, hb3⟩)
      go_wp2
      go_ret
      exact ⟨by rw [Hst.out]; congr 1, hb1.trans ((hb2.trans (hb3.mono hb2.size)).mono hb1.size)⟩
    · have Hst := hid (Hs0.out hc)
      have hcb : (checkC s (d + 1) t v != 0) = true := by simpa using hc
      generalize checkC s (d + 1) t v = c at *
      clear hc Hlim Hs Hs0 Hw
      go_enter Tryd.func35, Tryd.ntmps35
      go_wp2_with fail
      ((refine hck.mono ?_); rintro r1 w2 ⟨rfl, hb2⟩)
      clear hw1
      go_wp2
      go_ret
      exact ⟨by rw [Hst.out]; rfl, hb1.trans (hb2.mono hb1.size)⟩
end Go.Proofs.YtmcpanjpjnlleaaDoor


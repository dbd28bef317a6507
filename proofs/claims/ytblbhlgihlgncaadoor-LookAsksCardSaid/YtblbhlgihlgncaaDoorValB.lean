/- What looking at words keeps to. No program in sight. -/
import Derived.Test.YtblbhlgihlgncaaDoorValL
set_option linter.unusedVariables false
set_option linter.unusedSimpArgs false
namespace Go.Proofs.YtblbhlgihlgncaaDoor
section SValB
open Go.RowKit

/-- What is looked at is the first word, then what it claims. -/
theorem allW_run {s : Schema} (hr : rightB s = true) {ws : List (BitVec 64)} (h0 : 0 < ws.length) (h1 : ws.length ≤ 200) (hl : loN (ws.getD 0 0#64) = ws.length) (hh : hiN (ws.getD 0 0#64) < s.length) :
    allW s ws = (match (match clV ws.length 0 1 (typeL s (hiN (ws.getD 0 0#64) : Nat)).length 0 with
      | (c', none) => visN s ws 4 (hiN (ws.getD 0 0#64) : Nat) 1 c'
      | (c', some e) => (c', some e) : LS) with
      | (c, none) => (0, none, c)
      | (c, some (e, p)) => (e, some p, c)) := by
  have e : runW s ws = (match clV ws.length 0 1 (typeL s (hiN (ws.getD 0 0#64) : Nat)).length 0 with
      | (c', none) => visN s ws 4 (hiN (ws.getD 0 0#64) : Nat) 1 c'
      | (c', some e) => (c', some e)) := by
    unfold runW
    rw [if_neg (by omega)]
    rfl
  unfold allW
  rw [hr, if_neg (by decide), if_neg (by omega), e]
  rfl

section
variable {s : Schema} {d t : Nat} {v : St (d + 1)}
/-- What was built is right, and each of its words is claimed once but the first one. -/
theorem allW_built (hr : rightB s = true) (ht : t < s.length) (hc : codeT s (d + 1) 5 t v = 0) (hl : (buildW s d t v).length ≤ 200) : allW s (buildW s d t v) = (0, none, (buildW s d t v).length - 1) := by
  obtain ⟨h1, h2, h3⟩ := build_lie hc
  have hw : wordsT (d + 1) v = (Node.kids v).length + belowT (d + 1) v := words_below (d + 1) v
  have hlen := (code_struct hc).2.2.2.2.1
  have hs8 : s.length ≤ 8 := by unfold rightB at hr; simp only [Bool.and_eq_true, decide_eq_true_eq] at hr; exact hr.1.2
  have hpt := refV_parts (1 + wordsT (d + 1) v) t (by omega) (by omega)
  have hd : (buildW s d t v).getD 0 0#64 = refV ((1 + wordsT (d + 1) v : Nat) : Int) t := by rw [List.getD_eq_getElem?_getD, h2]; rfl
  rw [allW_run hr (by omega) hl (by rw [hd, hpt.1, h1]) (by rw [hd, hpt.2]; exact ht), hd, hpt.2]
  have e1 := clV_fits (L := (buildW s d t v).length) (lo := 1) (n := (typeL s t).length) (p := 0) (c := 0) (by omega) (by omega)
  rw [e1.yes (by omega)]
  simp only
  have hn : nkT (d + 1) v = (Node.kids v).length := rfl
  have hf := vis_fits (Pre.refl (buildW s d t v)) (by omega) (d + 1) 4 t v 1 (1 + (Node.kids v).length) (0 + (typeL s t).length) hc h3 (by omega) (by omega) (by omega) (by omega)
  rw [hf.yes (by omega)]
  simp only
  rw [h1, hw]
  congr 2
  omega

/-- A message that lacks words at its end is none. -/
theorem allW_cut (hr : rightB s = true) (ht : t < s.length) (hc : codeT s (d + 1) 5 t v = 0) (hl : (buildW s d t v).length ≤ 200) {xs : List (BitVec 64)} (h0 : 0 < xs.length) (hx : xs.length < (buildW s d t v).length) (hp : Pre (buildW s d t v) xs)
    (hl0 : loN (xs.getD 0 0#64) = xs.length) (hh : hiN (xs.getD 0 0#64) = t) : (allW s xs).1 = 23 := by
  obtain ⟨h1, h2, h3⟩ := build_lie hc
  have hw : wordsT (d + 1) v = (Node.kids v).length + belowT (d + 1) v := words_below (d + 1) v
  have hlen := (code_struct hc).2.2.2.2.1
  rw [allW_run hr h0 (by omega) hl0 (by rw [hh]; exact ht), hh]
  have e1 := clV_fits (L := xs.length) (lo := 1) (n := (typeL s t).length) (p := 0) (c := 0) (by omega) (by omega)
  by_cases hb : 1 + (typeL s t).length ≤ xs.length
  · rw [e1.yes hb]
    simp only
    have hn : nkT (d + 1) v = (Node.kids v).length := rfl
    have hf := vis_fits hp (by omega) (d + 1) 4 t v 1 (1 + (Node.kids v).length) (0 + (typeL s t).length) hc h3 (by omega) (by omega) (by omega) (by omega)
    obtain ⟨c, q, e⟩ := hf.no (by omega)
    rw [e]
  · obtain ⟨c, q, e⟩ := e1.no (by omega)
    rw [e]
/-- Whose first word says another length: of any such row. -/
theorem allW_form (hr : rightB s = true) {xs : List (BitVec 64)} (h0 : 0 < xs.length) (hx : xs.length ≤ 200) (hl0 : loN (xs.getD 0 0#64) ≠ xs.length) : allW s xs = (10, some 0, 0) := by
  unfold allW runW
  rw [hr, if_neg (by decide), if_neg (by omega), if_pos (.inl hl0)]
theorem allW_long (hr : rightB s = true) {xs : List (BitVec 64)} (hx : 200 < xs.length ∨ xs.length = 0) : allW s xs = (21, none, 0) := by
  unfold allW
  rw [hr, if_neg (by decide), if_pos (by omega)]

/-- A change of a Num, or nothing where a reference was. -/
theorem allW_keeps (hr : rightB s = true) (ht : t < s.length) (hc : codeT s (d + 1) 5 t v = 0) (hl : (buildW s d t v).length ≤ 200) (i : Nat) (hi : i < (typeL s t).length) (y : BitVec 64) (hy : (fieldP s t i).1 = 1 ∨ y = 0#64) :
    (allW s ((buildW s d t v).set (1 + i) y)).1 = 0 := by
  obtain ⟨h1, h2, h3⟩ := build_lie hc
  have hw : wordsT (d + 1) v = (Node.kids v).length + belowT (d + 1) v := words_below (d + 1) v
  obtain ⟨_, _, _, _, hlen, hf⟩ := code_struct hc
  have hs8 : s.length ≤ 8 := by unfold rightB at hr; simp only [Bool.and_eq_true, decide_eq_true_eq] at hr; exact hr.1.2
  have hpt := refV_parts (1 + wordsT (d + 1) v) t (by omega) (by omega)
  generalize hm : buildW s d t v = m at *
  have hxl : (m.set (1 + i) y).length = m.length := List.length_set
  have hd : (m.set (1 + i) y).getD 0 0#64 = refV ((1 + wordsT (d + 1) v : Nat) : Int) t := by rw [List.getD_eq_getElem?_getD, List.getElem?_set_ne (by omega), h2]; rfl
  have hoth : ∀ q, q ≠ 1 + i → (m.set (1 + i) y)[q]? = m[q]? := fun q hq => List.getElem?_set_ne (fun e => hq e.symm)
  have hat : (m.set (1 + i) y).getD (1 + i) 0#64 = y := by rw [List.getD_eq_getElem?_getD, List.getElem?_set_self (by omega)]; rfl
  generalize hxs : m.set (1 + i) y = xs at *
  rw [allW_run hr (by omega) (by omega) (by rw [hd, hpt.1]; omega) (by rw [hd, hpt.2]; exact ht), hd, hpt.2]
  have e1 := clV_fits (L := xs.length) (lo := 1) (n := (typeL s t).length) (p := 0) (c := 0) (by omega) (by omega)
  rw [e1.yes (by omega)]
  simp only
  have hI : ∀ n, n ≤ (Node.kids v).length → ∃ c', c' + 1 ≤ 1 + (Node.kids v).length + sumL (fszT d) ((Node.kids v).take n) ∧ runN (fun j c => oneN s xs (subN s xs 4) (fieldP s t j) (1 + j) c) n (0 + (typeL s t).length) = (c', none) := by
    intro n
    induction n with
    | zero => intro _; exact ⟨_, by simp only [List.take_zero, sumL_nil]; omega, rfl⟩
    | succ n ihn =>
      intro hn
      obtain ⟨c', g1, g2⟩ := ihn (by omega)
      rw [runN_ok g2]
      obtain ⟨k, hk⟩ := get_lt (l := Node.kids v) (i := n) (by omega)
      have hs := sumL_succ (fszT d) (Node.kids v) n k hk
      by_cases hni : n = i
      · subst hni
        refine ⟨c', by omega, ?_⟩
        unfold oneN
        rw [if_pos (by rw [hat]; exact hy)]
      · obtain ⟨hb, hx⟩ := hf n k hk
        have hle := sumL_take_at (fszT d) (Node.kids v) n k hk
        have hbw : belowT (d + 1) v = sumL (fszT d) (Node.kids v) := rfl
        have hlie := lieF_frame (ws' := xs) hb hx (h3 n k hk) (hoth _ (by omega)) (fun q a b => hoth q (by omega))
        have := one_fits (k := 4) (c := c') (lo := 1 + (Node.kids v).length + sumL (fszT d) ((Node.kids v).take n)) (Pre.refl xs) (by omega) hb hx
          (fun y k' p lo c a1 a2 a3 a4 a5 a6 => vis_fits (Pre.refl xs) (by omega) d k' _ y p lo c a1 a2 a3 a4 a5 a6) hlie (by omega) (by omega) (by omega) (by omega)
        exact ⟨c' + fszT d k, by omega, this.yes (by omega)⟩
  obtain ⟨c', g1, g2⟩ := hI (typeL s t).length (by omega)
  unfold visN
  rw [g2]
end
end SValB

end Go.Proofs.YtblbhlgihlgncaaDoor


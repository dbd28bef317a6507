/- control's words: what the functions come to, at words that were put together. -/
import Derived.Test.YtbhnbjaafejcjaaDoorCtl2
set_option linter.unusedVariables false
namespace Go.Proofs.YtbhnbjaafejcjaaDoor
open Go.RowKit

theorem fits_bd {e g b : Int} (h : ctlFits e g b = true) : 0 ≤ e ∧ e ≤ 32767 ∧ 0 ≤ g ∧ g ≤ 2147483647 ∧ 0 ≤ b ∧ b ≤ 65535 := of_decide_eq_true h
theorem fits_mk {e g b : Int} (h : 0 ≤ e ∧ e ≤ 32767 ∧ 0 ≤ g ∧ g ≤ 2147483647 ∧ 0 ≤ b ∧ b ≤ 65535) : ctlFits e g b = true := decide_eq_true h
theorem busy_W {e g b : Int} {l u : Bool} (hf : ctlFits e g b = true) : busyV (ctlW e g b l u) = ctlW e g b l true := by
  obtain ⟨h1, h2, h3, h4, h5⟩ := pack_un e g b l u hf
  simp only [busyV, h1, h2, h3, h4]
theorem written_W {e g b : Int} (hf : ctlFits e g b = true) (hg : g < 2147483647) : writtenV (ctlW e g b true true) = ctlW e (g + 1) b true false ∧ writtenC (ctlW e g b true true) = 0 := by
  obtain ⟨h1, h2, h3, h4, h5⟩ := pack_un e g b true true hf
  simp only [writtenV, writtenC, nextV, nextC, h1, h2, h3, h4, h5, hg, Bool.and_self, if_true, and_self]
theorem gone_W {e g b : Int} {l u : Bool} (hf : ctlFits e g b = true) : goneV (ctlW e g b l u) = ctlW ((e + 1) % 32768) 0 0 false false := by
  obtain ⟨h1, h2, h3, h4, h5⟩ := pack_un e g b l u hf
  simp only [goneV, h1]
theorem born_W {e g b : Int} {l u : Bool} (hf : ctlFits e g b = true) : bornV (ctlW e g b l u) = ctlW e 0 0 true false := by
  obtain ⟨h1, h2, h3, h4, h5⟩ := pack_un e g b l u hf
  simp only [bornV, h1]
theorem still_W {e g b e2 g2 b2 : Int} {l u l2 u2 : Bool} (hf : ctlFits e g b = true) (hf2 : ctlFits e2 g2 b2 = true) :
    stillV (ctlW e g b l u) (ctlW e2 g2 b2 l2 u2) = (decide (e = e2) && (l && (l2 && (decide (g = g2) || (decide (g + 1 = g2) && !u2))))) := by
  obtain ⟨h1, h2, h3, h4, h5⟩ := pack_un e g b l u hf
  obtain ⟨k1, k2, k3, k4, k5⟩ := pack_un e2 g2 b2 l2 u2 hf2
  simp only [stillV, h1, h2, h3, h4, h5, k1, k2, k3, k4, k5]
theorem pub_W {e g b p : Int} (hf : ctlFits e g b = true) (hg : g < 2147483647) (hp : 1 ≤ p ∧ p ≤ 65535) : pubV (ctlW e g b true false) p = ctlW e (g + 1) p true false ∧ pubC (ctlW e g b true false) p = 0 := by
  obtain ⟨h1, h2, h3, h4, h5⟩ := pack_un e g b true false hf
  have hn : ¬ (p < 1 ∨ 65536 ≤ p) := by omega
  simp only [pubV, pubC, nextV, nextC, h1, h2, h4, h5, hg, Bool.not_true, Bool.or_self, Bool.false_eq_true, if_false, if_true, and_self, if_neg hn]

/-- A word, by its parts. -/
theorem word_parts (x : BitVec 64) : ∃ e g b l u, ctlFits e g b = true ∧ x = ctlW e g b l u := ⟨unE x, unG x, unB x, unL x, unU x, un_fits x, (un_pack x).symm⟩
theorem ctlW_ne {e g b e2 g2 b2 : Int} {l u l2 u2 : Bool} (hf : ctlFits e g b = true) (hf2 : ctlFits e2 g2 b2 = true) (h : e ≠ e2 ∨ g ≠ g2 ∨ b ≠ b2 ∨ l ≠ l2 ∨ u ≠ u2) : ctlW e g b l u ≠ ctlW e2 g2 b2 l2 u2 := by
  intro hh
  obtain ⟨h1, h2, h3, h4, h5⟩ := pack_un e g b l u hf
  obtain ⟨k1, k2, k3, k4, k5⟩ := pack_un e2 g2 b2 l2 u2 hf2
  rw [hh] at h1 h2 h3 h4 h5
  rcases h with h | h | h | h | h
  · exact h (h1.symm.trans k1)
  · exact h (h2.symm.trans k2)
  · exact h (h3.symm.trans k3)
  · exact h (h4.symm.trans k4)
  · exact h (h5.symm.trans k5)

/-- What ControlApart asks, of plain words. -/
theorem apart_facts (x : BitVec 64) (p : Int) (hp : 1 ≤ p ∧ p ≤ 65535) :
    (writtenC (busyV x) = 0 → writtenV (busyV x) ≠ x ∧ writtenV (busyV x) ≠ busyV x ∧ unL x = true) ∧
    (pubC x p = 0 → pubV x p ≠ x ∧ unB (pubV x p) = p ∧ unG (pubV x p) = unG x + 1) ∧
    goneV x ≠ x ∧ bornV (goneV x) ≠ bornV x ∧ bornV (goneV x) ≠ x ∧ unL (bornV (goneV x)) = true ∧ unL (goneV x) = false := by
  obtain ⟨e, g, b, l, u, hf, rfl⟩ := word_parts x
  obtain ⟨h1, h2, h3, h4, h5⟩ := pack_un e g b l u hf
  have hb := fits_bd hf
  rw [busy_W hf, gone_W hf, born_W hf]
  have hfg : ctlFits ((e + 1) % 32768) 0 0 = true := fits_mk (by omega)
  rw [born_W hfg]
  have hf0 : ctlFits e 0 0 = true := fits_mk (by omega)
  refine ⟨fun hc => ?_, fun hc => ?_, ctlW_ne hfg hf (Or.inl (by omega)), ctlW_ne hfg hf0 (Or.inl (by omega)), ctlW_ne hfg hf (Or.inl (by omega)), (pack_un _ _ _ _ _ hfg).2.2.2.1, (pack_un _ _ _ _ _ hfg).2.2.2.1⟩
  · obtain ⟨k1, k2, k3, k4, k5⟩ := pack_un e g b l true hf
    have hl : l = true ∧ g < 2147483647 := by
      simp only [writtenC, k2, k4, k5, nextC] at hc
      cases l
      · simp at hc
      · simp only [Bool.and_self, if_true] at hc
        refine ⟨rfl, ?_⟩
        by_cases hg : g < 2147483647
        · exact hg
        · rw [if_neg hg] at hc; omega
    obtain ⟨rfl, hg⟩ := hl
    have hf1 : ctlFits e (g + 1) b = true := fits_mk (by omega)
    rw [(written_W hf hg).1]
    exact ⟨ctlW_ne hf1 hf (Or.inr (Or.inl (by omega))), ctlW_ne hf1 hf (Or.inr (Or.inl (by omega))), h4⟩
  · have hl : l = true ∧ u = false ∧ g < 2147483647 := by
      have hn : ¬ (p < 1 ∨ 65536 ≤ p) := by omega
      simp only [pubC, h2, h4, h5, nextC, if_neg hn] at hc
      cases l
      · simp at hc
      · cases u
        · simp only [Bool.not_true, Bool.or_self, Bool.false_eq_true, if_false] at hc
          refine ⟨rfl, rfl, ?_⟩
          by_cases hg : g < 2147483647
          · exact hg
          · rw [if_neg hg] at hc; omega
        · simp at hc
    obtain ⟨rfl, rfl, hg⟩ := hl
    have hf1 : ctlFits e (g + 1) p = true := fits_mk (by omega)
    rw [(pub_W hf hg hp).1]
    obtain ⟨k1, k2, k3, k4, k5⟩ := pack_un e (g + 1) p true false hf1
    exact ⟨ctlW_ne hf1 hf (Or.inr (Or.inl (by omega))), k3, by rw [k2, h2]⟩
end Go.Proofs.YtbhnbjaafejcjaaDoor


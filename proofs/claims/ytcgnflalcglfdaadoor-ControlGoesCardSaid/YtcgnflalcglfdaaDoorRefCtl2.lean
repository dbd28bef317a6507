/- The document's answers for control's words: Born, Gone, Busy, Written, Published, Still. -/
import Derived.Test.YtcgnflalcglfdaaDoorCtl2
set_option linter.unusedVariables false
namespace Go.Proofs.YtcgnflalcglfdaaDoor
open Go.RowKit

theorem bcell {W w1 : World} (hb : Below W.heap.size W w1) : (∀ b o, b < W.heap.size → w1.cell? ⟨b, o, none⟩ = W.cell? ⟨b, o, none⟩) ∧ (∀ b o, b < W.heap.size → w1.frozen? ⟨b, o, none⟩ = W.frozen? ⟨b, o, none⟩) :=
  ⟨fun b o h => hb.cell (p := ⟨b, o, none⟩) h, fun b o h => hb.frozen (p := ⟨b, o, none⟩) h⟩

theorem rborn_any (x : BitVec 64) (w : World) : Calls Tryd.prog 69 #[U x] w fun r w' => r = .returned (U (bornV x)) ∧ Below w.heap.size w w' := by
  have hf : ctlFits (unE x) 0 0 = true := by
    have h' : 0 ≤ unE x ∧ unE x ≤ 32767 ∧ 0 ≤ unG x ∧ unG x ≤ 2147483647 ∧ 0 ≤ unB x ∧ unB x ≤ 65535 := of_decide_eq_true (un_fits x)
    exact decide_eq_true (by omega)
  have hw := refpack_any (unE x) 0 0 true false hf
  have hu := refunpack_any x
  unfold unC CV at hu
  clear hf
  unfold bornV
  generalize unE x = xe at *
  generalize unG x = xg at *
  generalize unB x = xb at *
  generalize unL x = xl at *
  generalize unU x = xu at *
  generalize ctlW xe 0 0 true false = y at *
  go_enter Tryd.func69, Tryd.ntmps69
  go_wp2_with fail
  ((refine (hu _).mono ?_); rintro r1 w1 ⟨rfl, hb⟩)
  go_wp2_with fail
  ((refine (hw _).mono ?_); rintro r2 w2 ⟨rfl, hb2⟩)
  go_wp2
  go_ret
  exact ⟨rfl, via hb hb2⟩

theorem rgone_any (x : BitVec 64) (w : World) : Calls Tryd.prog 70 #[U x] w fun r w' => r = .returned (U (goneV x)) ∧ Below w.heap.size w w' := by
  have h' : 0 ≤ unE x ∧ unE x ≤ 32767 ∧ 0 ≤ unG x ∧ unG x ≤ 2147483647 ∧ 0 ≤ unB x ∧ unB x ≤ 65535 := of_decide_eq_true (un_fits x)
  have hf : ctlFits ((unE x + 1) % 32768) 0 0 = true := decide_eq_true (by omega)
  have hw := refpack_any ((unE x + 1) % 32768) 0 0 false false hf
  have hu := refunpack_any x
  unfold unC CV at hu
  obtain ⟨a0, a1, _⟩ := h'
  clear hf
  unfold goneV
  generalize unE x = xe at *
  generalize unG x = xg at *
  generalize unB x = xb at *
  generalize unL x = xl at *
  generalize unU x = xu at *
  generalize ctlW ((xe + 1) % 32768) 0 0 false false = y at *
  go_enter Tryd.func70, Tryd.ntmps70
  go_wp2_with fail
  ((refine (hu _).mono ?_); rintro r1 w1 ⟨rfl, hb⟩)
  go_wp2_with fail
  ((refine (hw _).mono ?_); rintro r2 w2 ⟨rfl, hb2⟩)
  go_wp2
  go_ret
  exact ⟨rfl, via hb hb2⟩

theorem rbusy_any (x : BitVec 64) (w : World) : Calls Tryd.prog 71 #[U x] w fun r w' => r = .returned (U (busyV x)) ∧ Below w.heap.size w w' := by
  have hw := refpack_any (unE x) (unG x) (unB x) (unL x) true (un_fits x)
  have hu := refunpack_any x
  unfold unC CV at hu
  unfold busyV
  generalize unE x = xe at *
  generalize unG x = xg at *
  generalize unB x = xb at *
  generalize unL x = xl at *
  generalize unU x = xu at *
  generalize ctlW xe xg xb xl true = y at *
  go_enter Tryd.func71, Tryd.ntmps71
  go_wp2_with fail
  ((refine (hu _).mono ?_); rintro r1 w1 ⟨rfl, hb⟩)
  go_wp2_with fail
  ((refine (hw _).mono ?_); rintro r2 w2 ⟨rfl, hb2⟩)
  go_wp2
  go_ret
  have hsz := hb.size
  exact ⟨rfl, via (by go_grown) hb2⟩

theorem fits_of {e g b : Int} (h : 0 ≤ e ∧ e ≤ 32767 ∧ 0 ≤ g ∧ g ≤ 2147483647 ∧ 0 ≤ b ∧ b ≤ 65535) : ctlFits e g b = true := decide_eq_true h

set_option maxHeartbeats 1000000 in
theorem rwritten_any (x : BitVec 64) (w : World) : Calls Tryd.prog 67 #[U x] w fun r w' => r = .returned (.tuple #[U (writtenV x), .int .i64 (writtenC x)]) ∧ Below w.heap.size w w' := by
  have hu := refunpack_any x
  unfold unC CV at hu
  have h' : 0 ≤ unE x ∧ unE x ≤ 32767 ∧ 0 ≤ unG x ∧ unG x ≤ 2147483647 ∧ 0 ≤ unB x ∧ unB x ≤ 65535 := of_decide_eq_true (un_fits x)
  obtain ⟨v, hv⟩ : ∃ v, writtenV x = v := ⟨_, rfl⟩
  obtain ⟨c, hc⟩ : ∃ c, writtenC x = c := ⟨_, rfl⟩
  rw [hv, hc]
  unfold writtenV nextV at hv
  unfold writtenC nextC at hc
  generalize unE x = e at *
  generalize unG x = g at *
  generalize unB x = b at *
  generalize unL x = l at *
  generalize unU x = u at *
  cases l <;> cases u
  case true.true =>
    simp only [Bool.and_self, if_true] at hv hc
    by_cases hg : g < 2147483647
    · rw [if_pos hg] at hv hc
      have hf := fits_any e (g + 1) b true false
      rw [fits_of (by omega)] at hf
      have hp := refpack_any e (g + 1) b true false (fits_of (by omega))
      have Hv := hid hv
      have Hc := hid hc
      obtain ⟨_, _, g1, g2, _⟩ := h'
      clear hv hc
      go_enter Tryd.func67, Tryd.ntmps67
      go_wp2_with fail
      ((refine (hu _).mono ?_); rintro r1 w1 ⟨rfl, hb⟩)
      go_wp2_with fail
      ((refine (hf _).mono ?_); rintro r2 w2 ⟨rfl, hb2⟩)
      obtain ⟨hc2, hf2⟩ := bcell hb2
      go_wp2_with fail
      ((refine (hp _).mono ?_); rintro r3 w3 ⟨rfl, hb3⟩)
      go_wp2
      go_ret2
      have hsz := hb.size
      exact ⟨by rw [← Hv.out, ← Hc.out]; first | done | rfl, via (via (by go_grown) hb2) hb3⟩
    · rw [if_neg hg] at hv hc
      have hf := fits_any e (g + 1) b true false
      have hff : ctlFits e (g + 1) b = false := decide_eq_false (by omega)
      rw [hff] at hf
      have Hv := hid hv
      have Hc := hid hc
      obtain ⟨_, _, g1, g2, _⟩ := h'
      clear hv hc hff
      go_enter Tryd.func67, Tryd.ntmps67
      go_wp2_with fail
      ((refine (hu _).mono ?_); rintro r1 w1 ⟨rfl, hb⟩)
      go_wp2_with fail
      ((refine (hf _).mono ?_); rintro r2 w2 ⟨rfl, hb2⟩)
      go_wp2
      go_ret2
      have hsz := hb.size
      exact ⟨by rw [← Hv.out, ← Hc.out]; rfl, via (by go_grown) hb2⟩
  all_goals
    simp only [Bool.and_false, Bool.and_true, Bool.and_self, Bool.false_eq_true, if_false] at hv hc
    have Hv := hid hv
    have Hc := hid hc
    clear hv hc h'
    go_enter Tryd.func67, Tryd.ntmps67
    go_wp2_with fail
    ((refine (hu _).mono ?_); rintro r1 w1 ⟨rfl, hb⟩)
    go_wp2
    go_ret2
    have hsz := hb.size
    exact ⟨by rw [← Hv.out, ← Hc.out]; rfl, by go_grown⟩

set_option maxHeartbeats 1000000 in
theorem rpublished_any (x : BitVec 64) (p : Int) (w : World) : Calls Tryd.prog 68 #[U x, .int .i64 p] w fun r w' => r = .returned (.tuple #[U (pubV x p), .int .i64 (pubC x p)]) ∧ Below w.heap.size w w' := by
  have hu := refunpack_any x
  unfold unC CV at hu
  have h' : 0 ≤ unE x ∧ unE x ≤ 32767 ∧ 0 ≤ unG x ∧ unG x ≤ 2147483647 ∧ 0 ≤ unB x ∧ unB x ≤ 65535 := of_decide_eq_true (un_fits x)
  obtain ⟨v, hv⟩ : ∃ v, pubV x p = v := ⟨_, rfl⟩
  obtain ⟨c, hc⟩ : ∃ c, pubC x p = c := ⟨_, rfl⟩
  rw [hv, hc]
  unfold pubV nextV at hv
  unfold pubC nextC at hc
  generalize unE x = e at *
  generalize unG x = g at *
  generalize unB x = b at *
  generalize unL x = l at *
  generalize unU x = u at *
  cases l <;> cases u
  case true.false =>
    simp only [Bool.not_true, Bool.or_self, Bool.false_eq_true, if_false] at hv hc
    by_cases hp1 : p < 1
    · rw [if_pos (Or.inl hp1)] at hv hc
      have Hv := hid hv
      have Hc := hid hc
      clear hv hc h'
      go_enter Tryd.func68, Tryd.ntmps68
      go_wp2_with fail
      ((refine (hu _).mono ?_); rintro r1 w1 ⟨rfl, hb⟩)
      go_wp2
      go_ret2
      have hsz := hb.size
      exact ⟨by rw [← Hv.out, ← Hc.out]; rfl, by go_grown⟩
    · by_cases hp2 : 65535 < p
      · rw [if_pos (Or.inr (by omega))] at hv hc
        have Hv := hid hv
        have Hc := hid hc
        clear hv hc h'
        go_enter Tryd.func68, Tryd.ntmps68
        go_wp2_with fail
        ((refine (hu _).mono ?_); rintro r1 w1 ⟨rfl, hb⟩)
        go_wp2
        go_ret2
        have hsz := hb.size
        exact ⟨by rw [← Hv.out, ← Hc.out]; rfl, by go_grown⟩
      · rw [if_neg (by omega)] at hv hc
        by_cases hg : g < 2147483647
        · rw [if_pos hg] at hv hc
          have hf := fits_any e (g + 1) p true false
          rw [fits_of (by omega)] at hf
          have hp := refpack_any e (g + 1) p true false (fits_of (by omega))
          have Hv := hid hv
          have Hc := hid hc
          obtain ⟨_, _, g1, g2, _⟩ := h'
          clear hv hc
          go_enter Tryd.func68, Tryd.ntmps68
          go_wp2_with fail
          ((refine (hu _).mono ?_); rintro r1 w1 ⟨rfl, hb⟩)
          go_wp2_with fail
          ((refine (hf _).mono ?_); rintro r2 w2 ⟨rfl, hb2⟩)
          obtain ⟨hc2, hf2⟩ := bcell hb2
          go_wp2_with fail
          ((refine (hp _).mono ?_); rintro r3 w3 ⟨rfl, hb3⟩)
          go_wp2
          go_ret2
          have hsz := hb.size
          exact ⟨by rw [← Hv.out, ← Hc.out]; first | done | rfl, via (via (by go_grown) hb2) hb3⟩
        · rw [if_neg hg] at hv hc
          have hf := fits_any e (g + 1) p true false
          have hff : ctlFits e (g + 1) p = false := decide_eq_false (by omega)
          rw [hff] at hf
          have Hv := hid hv
          have Hc := hid hc
          obtain ⟨_, _, g1, g2, _⟩ := h'
          clear hv hc hff
          go_enter Tryd.func68, Tryd.ntmps68
          go_wp2_with fail
          ((refine (hu _).mono ?_); rintro r1 w1 ⟨rfl, hb⟩)
          go_wp2_with fail
          ((refine (hf _).mono ?_); rintro r2 w2 ⟨rfl, hb2⟩)
          go_wp2
          go_ret2
          have hsz := hb.size
          exact ⟨by rw [← Hv.out, ← Hc.out]; rfl, via (by go_grown) hb2⟩
  all_goals
    simp only [Bool.not_true, Bool.not_false, Bool.or_true, Bool.true_or, Bool.or_false, Bool.or_self, if_true] at hv hc
    have Hv := hid hv
    have Hc := hid hc
    clear hv hc h'
    go_enter Tryd.func68, Tryd.ntmps68
    go_wp2_with fail
    ((refine (hu _).mono ?_); rintro r1 w1 ⟨rfl, hb⟩)
    go_wp2
    go_ret2
    have hsz := hb.size
    exact ⟨by rw [← Hv.out, ← Hc.out]; rfl, by go_grown⟩

set_option maxHeartbeats 2000000 in
theorem rstill_any (x y : BitVec 64) (w : World) : Calls Tryd.prog 72 #[U x, U y] w fun r w' => r = .returned (.bool (stillV x y)) ∧ Below w.heap.size w w' := by
  have hx : 0 ≤ unE x ∧ unE x ≤ 32767 ∧ 0 ≤ unG x ∧ unG x ≤ 2147483647 ∧ 0 ≤ unB x ∧ unB x ≤ 65535 := of_decide_eq_true (un_fits x)
  have hy : 0 ≤ unE y ∧ unE y ≤ 32767 ∧ 0 ≤ unG y ∧ unG y ≤ 2147483647 ∧ 0 ≤ unB y ∧ unB y ≤ 65535 := of_decide_eq_true (un_fits y)
  obtain ⟨_, _, x1, x2, _⟩ := hx
  obtain ⟨_, _, y1, y2, _⟩ := hy
  have hux := refunpack_any x
  have huy := refunpack_any y
  obtain ⟨v, hv⟩ : ∃ v, stillV x y = v := ⟨_, rfl⟩
  rw [hv]
  unfold stillV at hv
  unfold unC CV at hux huy
  generalize unE x = e1 at *
  generalize unE y = e2 at *
  generalize unG x = g1 at *
  generalize unG y = g2 at *
  generalize unL x = l1 at *
  generalize unL y = l2 at *
  generalize unU y = u2 at *
  have Hv := hid hv
  clear hv
  by_cases he : e1 = e2
  · by_cases hg : g1 = g2
    · subst he hg
      cases l1 <;> cases l2
      all_goals
        go_enter Tryd.func72, Tryd.ntmps72
        go_wp2_with fail
        ((refine (hux _).mono ?_); rintro r1 w1 ⟨rfl, hb⟩)
        go_wp2_with fail
        ((refine (huy _).mono ?_); rintro r2 w2 ⟨rfl, hb2⟩)
        obtain ⟨hc2, hf2⟩ := bcell hb2
        have hz : w1.heap.size < w2.heap.size := by have := hb2.size; simp at this; omega
        go_wp2
        go_ret
        have hsz1 := hb.size
        have hb3 := via (w := w) (by go_grown) hb2
        have hsz := hb3.size
        exact ⟨by rw [← Hv.out]; simp, by go_grown⟩
    · by_cases hg1 : g1 + 1 = g2
      · subst he hg1
        have Hne := hid hg
        clear hg
        cases l1 <;> cases l2 <;> cases u2
        all_goals
          go_enter Tryd.func72, Tryd.ntmps72
          go_wp2_with fail
          ((refine (hux _).mono ?_); rintro r1 w1 ⟨rfl, hb⟩)
          go_wp2_with fail
          ((refine (huy _).mono ?_); rintro r2 w2 ⟨rfl, hb2⟩)
          obtain ⟨hc2, hf2⟩ := bcell hb2
          have hz : w1.heap.size < w2.heap.size := by have := hb2.size; simp at this; omega
          go_wp2
          go_ret
          have hsz1 := hb.size
          have hb3 := via (w := w) (by go_grown) hb2
          have hsz := hb3.size
          exact ⟨by rw [← Hv.out]; simp [Hne.out], by go_grown⟩
      · subst he
        have hge : (g1 == g2) = false := by simpa using hg
        have hge1 : (g1 + 1 == g2) = false := by simpa using hg1
        have Hg := hid hg
        have Hg1 := hid hg1
        clear hg hg1
        cases l1 <;> cases l2
        all_goals
          go_enter Tryd.func72, Tryd.ntmps72
          go_wp2_with fail
          ((refine (hux _).mono ?_); rintro r1 w1 ⟨rfl, hb⟩)
          go_wp2_with fail
          ((refine (huy _).mono ?_); rintro r2 w2 ⟨rfl, hb2⟩)
          obtain ⟨hc2, hf2⟩ := bcell hb2
          have hz : w1.heap.size < w2.heap.size := by have := hb2.size; simp at this; omega
          go_wp2
          go_ret
          have hsz1 := hb.size
          have hb3 := via (w := w) (by go_grown) hb2
          have hsz := hb3.size
          exact ⟨by rw [← Hv.out]; simp [Hg.out, Hg1.out], by go_grown⟩
  · have hee : (e1 != e2) = true := by simpa using he
    have He := hid he
    clear he
    go_enter Tryd.func72, Tryd.ntmps72
    go_wp2_with fail
    ((refine (hux _).mono ?_); rintro r1 w1 ⟨rfl, hb⟩)
    go_wp2_with fail
    ((refine (huy _).mono ?_); rintro r2 w2 ⟨rfl, hb2⟩)
    obtain ⟨hc2, hf2⟩ := bcell hb2
    have hz : w1.heap.size < w2.heap.size := by have := hb2.size; simp at this; omega
    go_wp2
    go_ret
    have hsz1 := hb.size
    have hb3 := via (w := w) (by go_grown) hb2
    have hsz := hb3.size
    exact ⟨by rw [← Hv.out]; simp [He.out], by go_grown⟩
end Go.Proofs.YtcgnflalcglfdaaDoor

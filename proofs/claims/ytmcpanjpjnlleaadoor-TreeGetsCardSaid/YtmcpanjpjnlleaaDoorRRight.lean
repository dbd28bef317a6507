/- The document's Right. -/
import Derived.Test.YtmcpanjpjnlleaaDoorRight
set_option linter.unusedVariables false
namespace Go.Proofs.YtmcpanjpjnlleaaDoor
open Go.RowKit

set_option maxHeartbeats 4000000 in
theorem rright_any (s : Schema) (v : Value) (w : World) (hs : Sch w v s) :
    Calls Tryd.prog 56 #[v] w fun r w' => r = .returned (.bool (rightB s)) ∧ Below w.heap.size w w' := by
  obtain ⟨a, cap, rfl, hnc, hcm, hmost⟩ := hs.shape
  unfold maxLen at hmost
  obtain ⟨n, hn⟩ : ∃ n, n = s.length := ⟨_, rfl⟩
  rw [← hn] at hmost hnc hs ⊢
  have Hn := hid hn
  clear hn
  by_cases h1 : 1 ≤ n ∧ n ≤ 8
  · obtain ⟨h1, h8⟩ := h1
    go_enter Tryd.func56, Tryd.ntmps56
    go_wp2_with fail
    go_loopw [3] (fun i wr => ∃ k : Nat, k ≤ n ∧ i = .int .i64 k ∧ (s.take k).all (lOk n) = true ∧ Below w.heap.size w wr) (fun i _ => n - (intOf i).toNat)
    case atStart => exact ⟨0, by omega, rfl, rfl, Below.refl _ _⟩
    case round =>
      obtain ⟨k, hk, rfl, hal, hbl⟩ := hrel
      have Hal := hid hal
      clear hal
      by_cases hlt : k < n
      · obtain ⟨l, hl⟩ := get_lt (l := s) (i := k) (by rw [← Hn.out]; exact hlt)
        obtain ⟨b, off, a2, cap2, rfl, hbb, hc, hf, hlm, hlc, hcm2⟩ := (hs.below hbl (Nat.le_refl _)).at_ hl
        unfold maxLen at hlm
        obtain ⟨m, hm⟩ : ∃ m, m = l.length := ⟨_, rfl⟩
        rw [← hm] at hlm hlc hc hf
        have Hm := hid hm
        have Hl := hid hl
        clear hm hl
        have hbadr : lOk n l = false → rightB s = false := fun hb => by rw [rightB, ← Hn.out, all_false_of s _ k _ Hl.out hb, Bool.and_false]
        have Hbadl := hid hbadr
        clear hbadr
        by_cases hml : 1 ≤ m ∧ m ≤ 6
        · obtain ⟨hm1, hm6⟩ := hml
          go_wp2_with fail
          obtain ⟨wo, rfl⟩ : ∃ wo : World, wo = wr := ⟨_, rfl⟩
          have hwo := hbl.size
          go_loopw [4] (fun i wr => ∃ k : Nat, k ≤ m ∧ i = .int .i64 k ∧ (l.take k).all (fOk n) = true ∧ Below wo.heap.size wo wr) (fun i _ => m - (intOf i).toNat)
          case atStart => exact ⟨0, by omega, rfl, rfl, Below.refl _ _⟩
          case round =>
            obtain ⟨i, hi, rfl, hall, hbl2⟩ := hrel
            have hsz2 := hbl2.size
            have Hall := hid hall
            clear hall
            have hc' := (hbl2.cell (p := ⟨b, off + k, none⟩) hbb).trans hc
            by_cases hil : i < m
            · obtain ⟨p, hp⟩ := get_lt (l := l) (i := i) (by rw [← Hm.out]; exact hil)
              obtain ⟨b2, off2, rfl, hbb2, h1c, h2c⟩ := (hf.below hbl2 (Nat.le_refl _)).at_ hp
              obtain ⟨kd, ty⟩ := p
              simp only at h1c h2c
              have Hp := hid hp
              clear hp hf hc
              have hstep : ∀ b, fOk n (kd, ty) = b → ((l.take (i + 1)).all (fOk n)) = b := fun b hb => by rw [all_take_succ l _ i _ Hp.out, Hall.out, hb]; simp
              have Hstep := hid hstep
              clear hstep
              have badl : fOk n (kd, ty) = false → rightB s = false := fun hb => Hbadl.out (by rw [lOk, all_false_of l _ i _ Hp.out hb, Bool.and_false])
              have Hbadr := hid badl
              clear badl
              by_cases hk1 : kd < 1
              · have Hbad := hid (show fOk n (kd, ty) = false from decide_eq_false (by simp only; omega))
                go_wp2_with fail
                go_ret
                exact ⟨by rw [Hbadr.out Hbad.out]; rfl, via (w := w) hbl (by go_grown)⟩
              · by_cases hk5 : 5 < kd
                · have Hbad := hid (show fOk n (kd, ty) = false from decide_eq_false (by simp only; omega))
                  go_wp2_with fail
                  go_ret
                  exact ⟨by rw [Hbadr.out Hbad.out]; rfl, via (w := w) hbl (by go_grown)⟩
                · by_cases ht0 : ty < 0
                  · have Hbad := hid (show fOk n (kd, ty) = false from decide_eq_false (by simp only; omega))
                    go_wp2_with fail
                    go_ret
                    exact ⟨by rw [Hbadr.out Hbad.out]; rfl, via (w := w) hbl (by go_grown)⟩
                  · by_cases ht1 : (n : Int) ≤ ty
                    · have Hbad := hid (show fOk n (kd, ty) = false from decide_eq_false (by simp only; omega))
                      go_wp2_with fail
                      go_ret
                      exact ⟨by rw [Hbadr.out Hbad.out]; rfl, via (w := w) hbl (by go_grown)⟩
                    · by_cases hk4 : kd < 4
                      · by_cases hty : ty = 0
                        · subst hty
                          have Hgood := hid (show fOk n (kd, 0) = true from decide_eq_true ⟨by omega, by omega, Int.le_refl _, show (0 : Int) < (n : Int) by omega, fun _ => rfl⟩)
                          go_wp2_with fail
                          go_roundw
                          case rel => exact ⟨i + 1, by omega, by go_num, by rw [Hstep.out _ Hgood.out], by go_grown⟩
                          case measure => simp [intOf] <;> omega
                        · have Hbad := hid (show fOk n (kd, ty) = false from decide_eq_false (by simp only; omega))
                          have htyb : (ty != 0) = true := by simpa using hty
                          clear hty
                          go_wp2_with fail
                          go_ret
                          exact ⟨by rw [Hbadr.out Hbad.out]; rfl, via (w := w) hbl (by go_grown)⟩
                      · have Hgood := hid (show fOk n (kd, ty) = true from decide_eq_true (by simp only; omega))
                        go_wp2_with fail
                        go_roundw
                        case rel => exact ⟨i + 1, by omega, by go_num, by rw [Hstep.out _ Hgood.out], by go_grown⟩
                        case measure => simp [intOf] <;> omega
            · obtain rfl : i = m := by omega
              have Hgl := hid (show lOk n l = true by
                have h1 := Hall.out
                rw [Hm.out, List.take_length] at h1
                rw [lOk, h1, Bool.and_true]
                exact decide_eq_true (by rw [← Hm.out]; exact ⟨hm1, hm6⟩))
              go_wp2_with fail
              go_roundw
              case rel => exact ⟨k + 1, by omega, by go_num, by rw [all_take_succ s _ k _ Hl.out, Hgl.out, Hal.out]; rfl, via (w := w) hbl hbl2⟩
              case measure => simp [intOf] <;> omega
        · have Hres := hid (Hbadl.out (by
              rw [lOk, show decide (1 ≤ l.length ∧ l.length ≤ 6) = false from decide_eq_false (by rw [← Hm.out]; exact hml)]; rfl))
          clear hs hf
          rcases Nat.lt_or_ge m 1 with hm1 | hm1
          · clear hml
            go_wp2_with fail
            go_ret
            exact ⟨by rw [Hres.out]; rfl, hbl⟩
          · have hm6 : 6 < m := by omega
            clear hml
            go_wp2_with fail
            go_ret
            exact ⟨by rw [Hres.out]; rfl, hbl⟩
      · obtain rfl : k = n := by omega
        have Hres := hid (show rightB s = true by
          have h := Hal.out
          rw [all_of_take s _ k (by rw [← Hn.out]; exact Nat.le_refl _)] at h
          rw [rightB, ← Hn.out, show decide (1 ≤ k ∧ k ≤ 8) = true from decide_eq_true ⟨h1, h8⟩, Bool.true_and]
          exact h)
        clear hs
        go_wp2_with fail
        go_ret
        exact ⟨by rw [Hres.out]; rfl, hbl⟩
  · have Hres := hid (show rightB s = false by rw [rightB, ← Hn.out, show decide (1 ≤ n ∧ n ≤ 8) = false from decide_eq_false h1]; rfl)
    rw [Hres.out]
    clear hs
    rcases Nat.lt_or_ge n 1 with hm1 | hm1
    · clear h1
      go_enter Tryd.func56, Tryd.ntmps56
      go_wp2_with fail
      go_ret
      exact ⟨rfl, Below.refl _ _⟩
    · have hm6 : 8 < n := by omega
      clear h1
      go_enter Tryd.func56, Tryd.ntmps56
      go_wp2_with fail
      go_ret
      exact ⟨rfl, Below.refl _ _⟩
end Go.Proofs.YtmcpanjpjnlleaaDoor


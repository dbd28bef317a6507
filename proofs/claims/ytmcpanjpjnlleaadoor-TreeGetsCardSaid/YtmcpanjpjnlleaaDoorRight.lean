/- schema.typed, schema.right. -/
import Derived.Test.YtmcpanjpjnlleaaDoorSchV
import Derived.Test.YtmcpanjpjnlleaaDoorProg
import Derived.Handy
import Derived.Deep.LoopGhost
set_option linter.unusedVariables false
namespace Go.Proofs.YtmcpanjpjnlleaaDoor
open Go.RowKit

def knownK (k : Int) : Bool := decide (1 ≤ k ∧ k ≤ 5)
def typedK (k : Int) : Bool := decide (4 ≤ k ∧ k ≤ 5)

theorem typed_any (k : Int) (w : World) : Calls Tryd.prog 70 #[.int .i64 k] w fun r w' => r = .returned (.tuple #[.bool (knownK k), .bool (typedK k)]) ∧ w' = w := by
  by_cases h : 1 ≤ k ∧ k ≤ 5
  · have : k = 1 ∨ k = 2 ∨ k = 3 ∨ k = 4 ∨ k = 5 := by omega
    rcases this with rfl | rfl | rfl | rfl | rfl
    all_goals
      go_enter Tryd.func70, Tryd.ntmps70
      go_wp2
      go_ret2
      exact ⟨rfl, rfl⟩
  · have H := hid (show knownK k = false ∧ typedK k = false from ⟨decide_eq_false h, decide_eq_false (by omega)⟩)
    have h1 : (k == 1) = false := by simp; omega
    have h2 : (k == 2) = false := by simp; omega
    have h3 : (k == 3) = false := by simp; omega
    have h4 : (k == 4) = false := by simp; omega
    have h5 : (k == 5) = false := by simp; omega
    clear h
    go_enter Tryd.func70, Tryd.ntmps70
    go_wp2
    go_ret2
    exact ⟨by rw [H.out.1, H.out.2]; rfl, rfl⟩

set_option maxHeartbeats 4000000 in
theorem right_any (s : Schema) (v : Value) (w : World) (hs : Sch w v s) :
    Calls Tryd.prog 59 #[v] w fun r w' => r = .returned (.bool (rightB s)) ∧ Below w.heap.size w w' := by
  obtain ⟨a, cap, rfl, hnc, hcm, hmost⟩ := hs.shape
  unfold maxLen at hmost
  obtain ⟨n, hn⟩ : ∃ n, n = s.length := ⟨_, rfl⟩
  rw [← hn] at hmost hnc hs ⊢
  have Hn := hid hn
  clear hn
  by_cases h1 : 1 ≤ n ∧ n ≤ 8
  · obtain ⟨h1, h8⟩ := h1
    go_enter Tryd.func59, Tryd.ntmps59
    go_wp2_with fail
    go_step3
    go_wp2_with fail
    go_step3
    go_wp2_with fail
    go_loopw [3, 20] (fun ok i wr => ∃ k : Nat, k ≤ n ∧ i = .int .i64 k ∧ ok = .bool ((s.take k).all (lOk n)) ∧ Below w.heap.size w wr) (fun _ i _ => n - (intOf i).toNat)
    case atStart => exact ⟨0, by omega, rfl, rfl, Below.refl _ _⟩
    case round =>
      obtain ⟨k, hk, rfl, rfl, hbl⟩ := hrel
      by_cases hlt : k < n
      · obtain ⟨l, hl⟩ := get_lt (l := s) (i := k) (by rw [← Hn.out]; exact hlt)
        obtain ⟨b, off, a2, cap2, rfl, hbb, hc, hf, hlm, hlc, hcm2⟩ := (hs.below hbl (Nat.le_refl _)).at_ hl
        unfold maxLen at hlm
        obtain ⟨m, hm⟩ : ∃ m, m = l.length := ⟨_, rfl⟩
        rw [← hm] at hlm hlc hc hf
        have Hm := hid hm
        have Hl := hid hl
        clear hm hl
        by_cases hml : 1 ≤ m ∧ m ≤ 6
        · obtain ⟨hm1, hm6⟩ := hml
          go_wp2_with fail
          obtain ⟨wo, rfl⟩ : ∃ wo : World, wo = wr := ⟨_, rfl⟩
          have hwo := hbl.size
          obtain ⟨q, hq⟩ : ∃ q, q = (s.take k).all (lOk n) := ⟨_, rfl⟩
          rw [← hq]
          have Hq := hid hq
          clear hq
          go_loopw [3, 34] (fun ok i wr => ∃ k : Nat, k ≤ m ∧ i = .int .i64 k ∧ ok = .bool q ∧ (l.take k).all (fOk n) = true ∧ Below wo.heap.size wo wr) (fun _ i _ => m - (intOf i).toNat)
          case atStart => exact ⟨0, by omega, rfl, rfl, rfl, Below.refl _ _⟩
          case round =>
            obtain ⟨i, hi, rfl, rfl, hall, hbl2⟩ := hrel
            have hsz2 := hbl2.size
            have Hall := hid hall
            clear hall
            by_cases hil : i < m
            · obtain ⟨p, hp⟩ := get_lt (l := l) (i := i) (by rw [← Hm.out]; exact hil)
              obtain ⟨b2, off2, rfl, hbb2, h1c, h2c⟩ := (hf.below hbl2 (Nat.le_refl _)).at_ hp
              obtain ⟨kd, ty⟩ := p
              simp only at h1c h2c
              have Hp := hid hp
              clear hp hf hc
              have ht := typed_any kd
              have hstep : ∀ b, fOk n (kd, ty) = b → ((l.take (i + 1)).all (fOk n)) = b := fun b hb => by rw [all_take_succ l _ i _ Hp.out, Hall.out, hb]; simp
              have Hstep := hid hstep
              clear hstep
              have badl : fOk n (kd, ty) = false → lOk n l = false := fun hb => by rw [lOk, all_false_of l _ i _ Hp.out hb, Bool.and_false]
              have badk : lOk n l = false → .bool false = Value.bool ((s.take (k + 1)).all (lOk n)) := fun hb => by rw [all_take_succ s _ k _ Hl.out, hb, Bool.and_false]
              have Hbadk := hid badk
              have Hbadl := hid badl
              clear badl badk
              by_cases hk1 : 1 ≤ kd ∧ kd ≤ 5
              · have k1 : knownK kd = true := decide_eq_true hk1
                rw [k1] at ht
                clear k1
                by_cases ht0 : ty < 0
                · have Hbad := hid (show fOk n (kd, ty) = false from decide_eq_false (by simp only; omega))
                  clear hk1
                  generalize typedK kd = tk at *
                  go_wp2_with (go_at_call 70; (with_reducible refine (ht _).mono ?_); rintro r w1 ⟨rfl, rfl⟩)
                  go_roundw
                  case rel => exact ⟨k + 1, by omega, by go_num, Hbadk.out (Hbadl.out Hbad.out), via (w := w) hbl (by go_grown)⟩
                  case measure => simp [intOf] <;> omega
                · by_cases ht1 : (n : Int) ≤ ty
                  · have Hbad := hid (show fOk n (kd, ty) = false from decide_eq_false (by simp only; omega))
                    clear hk1
                    generalize typedK kd = tk at *
                    go_wp2_with (go_at_call 70; (with_reducible refine (ht _).mono ?_); rintro r w1 ⟨rfl, rfl⟩)
                    go_roundw
                    case rel => exact ⟨k + 1, by omega, by go_num, Hbadk.out (Hbadl.out Hbad.out), via (w := w) hbl (by go_grown)⟩
                    case measure => simp [intOf] <;> omega
                  · by_cases hk4 : kd < 4
                    · have k2 : typedK kd = false := decide_eq_false (by omega)
                      rw [k2] at ht
                      clear k2
                      by_cases hty : ty = 0
                      · subst hty
                        have Hgood := hid (show fOk n (kd, 0) = true from decide_eq_true ⟨hk1.1, hk1.2, Int.le_refl _, show (0 : Int) < (n : Int) by omega, fun _ => rfl⟩)
                        clear hk1
                        go_wp2_with (go_at_call 70; (with_reducible refine (ht _).mono ?_); rintro r w1 ⟨rfl, rfl⟩)
                        go_roundw
                        case rel => exact ⟨i + 1, by omega, by go_num, rfl, by rw [Hstep.out _ Hgood.out], by go_grown⟩
                        case measure => simp [intOf] <;> omega
                      · have Hbad := hid (show fOk n (kd, ty) = false from decide_eq_false (by simp only; omega))
                        have htyb : (ty != 0) = true := by simpa using hty
                        clear hk1 hty
                        go_wp2_with (go_at_call 70; (with_reducible refine (ht _).mono ?_); rintro r w1 ⟨rfl, rfl⟩)
                        go_roundw
                        case rel => exact ⟨k + 1, by omega, by go_num, Hbadk.out (Hbadl.out Hbad.out), via (w := w) hbl (by go_grown)⟩
                        case measure => simp [intOf] <;> omega
                    · have k2 : typedK kd = true := decide_eq_true (by omega)
                      rw [k2] at ht
                      clear k2
                      have Hgood := hid (show fOk n (kd, ty) = true from decide_eq_true (by simp only; omega))
                      clear hk1
                      go_wp2_with (go_at_call 70; (with_reducible refine (ht _).mono ?_); rintro r w1 ⟨rfl, rfl⟩)
                      go_roundw
                      case rel => exact ⟨i + 1, by omega, by go_num, rfl, by rw [Hstep.out _ Hgood.out], by go_grown⟩
                      case measure => simp [intOf] <;> omega
              · have Hbad := hid (show fOk n (kd, ty) = false from decide_eq_false (by simp only; omega))
                rw [show knownK kd = false from decide_eq_false hk1] at ht
                clear hk1
                generalize typedK kd = tk at *
                go_wp2_with (go_at_call 70; (with_reducible refine (ht _).mono ?_); rintro r w1 ⟨rfl, rfl⟩)
                go_roundw
                case rel => exact ⟨k + 1, by omega, by go_num, Hbadk.out (Hbadl.out Hbad.out), via (w := w) hbl (by go_grown)⟩
                case measure => simp [intOf] <;> omega
            · obtain rfl : i = m := by omega
              have Hgl := hid (show lOk n l = true by
                have h1 := Hall.out
                rw [Hm.out, List.take_length] at h1
                rw [lOk, h1, Bool.and_true]
                exact decide_eq_true (by rw [← Hm.out]; exact ⟨hm1, hm6⟩))
              go_wp2_with fail
              go_roundw
              case rel => exact ⟨k + 1, by omega, by go_num, by rw [all_take_succ s _ k _ Hl.out, Hgl.out, Bool.and_true, Hq.out], via (w := w) hbl hbl2⟩
              case measure => simp [intOf] <;> omega
        · have Hres := hid (show rightB s = false by
            have hbad : lOk n l = false := by
              rw [lOk, show decide (1 ≤ l.length ∧ l.length ≤ 6) = false from decide_eq_false (by rw [← Hm.out]; exact hml)]; rfl
            rw [rightB, ← Hn.out, all_false_of s _ k _ Hl.out hbad, Bool.and_false])
          clear hs hf
          rcases Nat.lt_or_ge m 1 with hm1 | hm1
          · clear hml
            go_wp2_with fail
            (try rw [Exit.noGoto_ret])
            go_ret
            exact ⟨by rw [Hres.out]; rfl, hbl⟩
          · have hm6 : 6 < m := by omega
            clear hml
            go_wp2_with fail
            (try rw [Exit.noGoto_ret])
            go_ret
            exact ⟨by rw [Hres.out]; rfl, hbl⟩
      · obtain rfl : k = n := by omega
        have Hres := hid (show (s.take k).all (lOk k) = rightB s by
          rw [rightB, ← Hn.out, show decide (1 ≤ k ∧ k ≤ 8) = true from decide_eq_true ⟨h1, h8⟩, Bool.true_and, all_of_take s _ k (by rw [← Hn.out]; exact Nat.le_refl _)])
        clear hs
        rw [Hres.out]
        go_wp2_with fail
        (try rw [Exit.noGoto_ret])
        go_ret
        exact ⟨rfl, hbl⟩
  · have Hres := hid (show rightB s = false by rw [rightB, ← Hn.out, show decide (1 ≤ n ∧ n ≤ 8) = false from decide_eq_false h1]; rfl)
    rw [Hres.out]
    clear hs
    rcases Nat.lt_or_ge n 1 with hm1 | hm1
    · clear h1
      go_enter Tryd.func59, Tryd.ntmps59
      go_wp2_with fail
      go_step3
      go_wp2_with fail
      (try rw [Exit.noGoto_ret])
      go_ret
      exact ⟨rfl, Below.refl _ _⟩
    · have hm6 : 8 < n := by omega
      clear h1
      go_enter Tryd.func59, Tryd.ntmps59
      go_wp2_with fail
      go_step3
      go_wp2_with fail
      (try rw [Exit.noGoto_ret])
      go_ret
      exact ⟨rfl, Below.refl _ _⟩
end Go.Proofs.YtmcpanjpjnlleaaDoor


/- tree.Check. -/
import Derived.Test.YtmcpanjpjnlleaaDoorTrLook
set_option linter.unusedVariables false
namespace Go.Proofs.YtmcpanjpjnlleaaDoor
open Go.RowKit

theorem errV_ne {c : Int} (h : c ≠ 0) : ErrV c = .iface 45 (.int .i64 c) := if_neg h

theorem new_err (c : Int) (w : World) : Calls Tryd.prog 29 #[.int .i64 c] w fun r w' => r = .returned (ErrV c) ∧ w' = w := by
  by_cases h : c = 0
  · subst h
    go_enter Tryd.func29, Tryd.ntmps29
    go_wp2
    go_ret
    exact ⟨rfl, rfl⟩
  · rw [errV_ne h]
    exact new_any c h w

theorem top_err (c : Int) (w : World) (hl : LaidE w) : Calls Tryd.prog 15 #[ErrV c] w fun r w' => r = .returned (.int .i64 c) ∧ Below w.heap.size w w' := by
  by_cases h : c = 0
  · subst h; exact top_nil w
  · rw [errV_ne h]; exact top_code c w hl

set_option maxHeartbeats 2000000 in
theorem tcheck_any (s : Schema) (sv : Value) (d : Nat) (t : Int) (v : St d) (cs : List Value) (w : World) (hs : Sch w sv s) (h : RdS d w cs v) :
    Calls Tryd.prog 21 #[sv, .int .i64 t, .agg cs.toArray] w fun r w' => r = .returned (ErrV (checkC s d t v)) ∧ Below w.heap.size w w' := by
  cases d with
  | zero => exact nomatch v
  | succ d =>
    obtain ⟨a2, p2, a, cap, hcs, hbs, hn, hk, hnm, hkm⟩ := RdN.open h
    obtain ⟨sa, scap, hsv, _, _, hsm⟩ := hs.shape
    unfold maxLen at hsm
    subst hcs
    obtain ⟨w1, hw1, hb1, hlt1, hbox⟩ := boxed w #[U (Node.num v), .string (Node.bytes v), .slice a2 (Node.nums v).length p2, .slice a (Node.kids v).length cap] 34
    have x0 : w1.cell? ⟨w.heap.size, 0, none⟩ = some (U (Node.num v)) := hbox 0
    have x1 : w1.cell? ⟨w.heap.size, 1, none⟩ = some (.string (Node.bytes v)) := hbox 1
    have x2 : w1.cell? ⟨w.heap.size, 2, none⟩ = some (.slice a2 (Node.nums v).length p2) := hbox 2
    have x3 : w1.cell? ⟨w.heap.size, 3, none⟩ = some (.slice a (Node.kids v).length cap) := hbox 3
    have hs1 := hs.below hb1 (Nat.le_refl _)
    have h1 := h.below hb1 (Nat.le_refl _)
    have hck := check_any s sv w1 hs1
    have hlook := hid (fun W (hW : Below w1.heap.size w1 W) => look_any s sv (d + 1) 5 (by omega) t v _ W (hs1.below hW (Nat.le_refl _)) (h1.below hW (Nat.le_refl _)))
    obtain ⟨n, hn2⟩ : ∃ n, n = s.length := ⟨_, rfl⟩
    have Hn := hid hn2
    rw [← hn2] at hsm hsv
    subst hsv
    clear hs h hs1 h1 hk hn hn2 hbox hbs
    by_cases hr : rightB s = true
    · by_cases ht : 0 ≤ t ∧ t < n
      · have Hc := hid (show checkC s (d + 1) t v = codeT s (d + 1) 5 t v by rw [checkC, if_pos ⟨hr, ht.1, by rw [← Hn.out]; exact ht.2⟩])
        rw [hr, if_pos rfl, show ErrV 0 = .nilIface from rfl] at hck
        obtain ⟨ht0, ht1⟩ := ht
        clear hr
        have hnew := fun w => new_err (codeT s (d + 1) 5 t v) w
        generalize codeT s (d + 1) 5 t v = c at *
        go_enter Tryd.func21, Tryd.ntmps21
        go_wp2_with fail
        ((refine hck.mono ?_); rintro r1 w2 ⟨rfl, hb2⟩)
        replace x0 := (hb2.cell hlt1).trans x0
        replace x1 := (hb2.cell hlt1).trans x1
        replace x2 := (hb2.cell hlt1).trans x2
        replace x3 := (hb2.cell hlt1).trans x3
        clear hw1
        go_wp2_with fail
        ((refine (hlook.out _ hb2).mono ?_); rintro r2 w3 ⟨rfl, hb3⟩)
        go_wp2_with fail
        ((refine (hnew _).mono ?_); rintro r3 w4 ⟨rfl, rfl⟩)
        go_wp2
        go_ret
        exact ⟨by rw [Hc.out]; rfl, hb1.trans ((hb2.trans (hb3.mono hb2.size)).mono hb1.size)⟩
      · have Hc := hid (show checkC s (d + 1) t v = 1 by rw [checkC, if_neg (by rw [← Hn.out]; exact fun h => ht h.2)])
        rw [hr, if_pos rfl, show ErrV 0 = .nilIface from rfl] at hck
        have hnew := fun w => new_err 1 w
        clear hr
        rcases Int.lt_or_le t 0 with ht0 | ht0
        all_goals
          (try have ht1 : (n : Int) ≤ t := by omega)
          clear ht
          go_enter Tryd.func21, Tryd.ntmps21
          go_wp2_with fail
          ((refine hck.mono ?_); rintro r1 w2 ⟨rfl, hb2⟩)
          clear hw1
          go_wp2_with fail
          ((refine (hnew _).mono ?_); rintro r3 w4 ⟨rfl, rfl⟩)
          go_wp2
          go_ret
          exact ⟨by rw [Hc.out]; rfl, hb1.trans (hb2.mono hb1.size)⟩
    · have Hc := hid (show checkC s (d + 1) t v = 1 by rw [checkC, if_neg (fun h => hr h.1)])
      rw [if_neg hr, errV_ne (by decide)] at hck
      have hnew := fun w => new_err 1 w
      clear hr
      go_enter Tryd.func21, Tryd.ntmps21
      go_wp2_with fail
      ((refine hck.mono ?_); rintro r1 w2 ⟨rfl, hb2⟩)
      clear hw1
      go_wp2_with fail
      ((refine (hnew _).mono ?_); rintro r3 w4 ⟨rfl, rfl⟩)
      go_wp2
      go_ret
      exact ⟨by rw [Hc.out]; rfl, hb1.trans (hb2.mono hb1.size)⟩
end Go.Proofs.YtmcpanjpjnlleaaDoor


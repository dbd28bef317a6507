/- intagliolaw08.awake. -/
import Derived.Test.YtogaclolodlnbaaDoorVMade
set_option linter.unusedVariables false
set_option linter.unusedSimpArgs false
namespace Go.Proofs.YtogaclolodlnbaaDoor
section SVAw
open Go.RowKit

theorem allW_T2 : allW S2 [5#64, 7#64, 8589934593#64, 5#64, 6#64] = (0, none, 4) := by decide

set_option maxRecDepth 100000 in
set_option maxHeartbeats 4000000 in
theorem awake08 (w : World) (hl : LaidE w) : Calls Tryd.prog 16 #[] w fun r w' => r = .returned (.bool true) ∧ Below w.heap.size w w' := by
  obtain ⟨w2, hw2⟩ : ∃ w2, w2 = (w.alloc (.cells #[.int .i64 1, .int .i64 0, .int .i64 3, .int .i64 0] 61)).alloc (.cells #[.slice (some ⟨w.heap.size, 0, none⟩) 2 2] 62) := ⟨_, rfl⟩
  have e2 : w2.heap.size = w.heap.size + 1 + 1 := by rw [hw2]; simp
  have hb2 : Below w.heap.size w w2 := by rw [hw2]; exact (below_alloc _ _).alloc (by simp) _
  have hS2 : Sch w2 (.slice (some ⟨w.heap.size + 1, 0, none⟩) 1 1) S2 := by rw [hw2]; exact sch_S2 w
  obtain ⟨w4, hw4⟩ : ∃ w4, w4 = w2.alloc (.cells #[U 5#64, U 7#64, U 8589934593#64, U 5#64, U 6#64] 38) := ⟨_, rfl⟩
  have hb4 : Below w2.heap.size w2 w4 := by rw [hw4]; exact below_alloc _ _
  have hR4 : Row w4 1 (.slice (some ⟨w2.heap.size, 0, none⟩) 5 5) 5 ([5#64, 7#64, 8589934593#64, 5#64, 6#64].map U) := by rw [hw4]; exact row_new w2 #[U 5#64, U 7#64, U 8589934593#64, U 5#64, U 6#64] 38 1 5 rfl (by simp [maxLen])
  have hB := via hb2 hb4
  have hg := hid (vcheck_any S2 [5#64, 7#64, 8589934593#64, 5#64, 6#64] _ _ w4 (hS2.below hb4 (Nat.le_refl _)) hR4)
  obtain ⟨Q, hQ1, hQ2, hQ3⟩ : ∃ Q : World → Prop, (∀ W, Below w4.heap.size w4 W → Q W) ∧ (∀ W W', Q W → Below W.heap.size W W' → Q W') ∧ (∀ W, Q W → Below w2.heap.size w2 W) :=
    ⟨fun W => Below w2.heap.size w2 W, fun W h => via hb4 h, fun W W' h k => via h k, fun W h => h⟩
  have Hvis := hid fun W (hW : Q W) => vvisits_any S2 [5#64, 7#64, 8589934593#64, 5#64, 6#64] _ _ (W.alloc (.cells #[U 5#64, U 7#64, U 8589934593#64, U 5#64, U 6#64] 38)) (hS2.below (via (hQ3 W hW) (below_alloc W _)) (Nat.le_refl _)) (row_new W #[U 5#64, U 7#64, U 8589934593#64, U 5#64, U 6#64] 38 1 5 rfl (by simp [maxLen]))
  have hTop := hid fun W u (hW : Below w.heap.size w W) (hE : ErrW W u 0 none) => top_errW (LaidE.below hl hW (LaidE.pos hl)) hE
  rw [allW_T2] at hg Hvis
  have Hg := hid (show Calls _ _ _ w4 (fun r w' => ∃ u, r = .returned u ∧ ErrW w' u 0 none ∧ Q w' ∧ Below w.heap.size w w') from hg.out.mono fun r w' ⟨u, h1, h2, h3⟩ => ⟨u, h1, h2, hQ1 _ h3, via hB h3⟩)
  clear hS2 hR4 hb4 hg hl hB hQ1 hQ3 hb2
  rw [hw4, e2, hw2] at Hg
  clear hw4 hw2 w4 e2 w2
  go_enter Tryd.func16, Tryd.ntmps16
  go_wp2_with fail
  ((refine Hg.out.mono ?_); rintro r1 w5 ⟨u, rfl, hE, hb5, hB5⟩)
  go_wp2_with fail
  ((refine (hTop.out w5 u hB5 hE).mono ?_); rintro r2 w6 ⟨rfl, hb6⟩)
  have hB6 := via hB5 hb6
  have hv := hid (Hvis.out w6 (hQ2 _ _ hb5 hb6))
  clear Hg hTop hQ2
  go_wp2_with fail
  ((refine hv.out.mono ?_); rintro r3 w7 ⟨rfl, hb7⟩)
  go_wp2_with fail
  go_returns
  exact ⟨rfl, via (via hB6 (below_alloc w6 _)) hb7⟩
end SVAw

end Go.Proofs.YtogaclolodlnbaaDoor


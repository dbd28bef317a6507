/- intagliolaw05.awake: the chapter's example. -/
import Derived.Test.YtbhnbjaafejcjaaDoorSPack
set_option linter.unusedVariables false
namespace Go.Proofs.YtbhnbjaafejcjaaDoor
open Go.RowKit

theorem row_new (w : World) (cs : Array Value) (T : TypeId) (sz n : Nat) (h : cs.size = n * sz) (hm : n ≤ maxLen) : Row (w.alloc (.cells cs T)) sz (.slice (some ⟨w.heap.size, 0, none⟩) n n) n cs.toList := by
  refine ⟨by simp [h], hm, some ⟨w.heap.size, 0, none⟩, n, rfl, Nat.le_refl _, hm, (fun h => by cases h), fun _ => ⟨w.heap.size, 0, rfl, by simp, fun j hj => ?_⟩⟩
  rw [Nat.zero_add, cell_of_row _ _ _ _ _ _ (heap_alloc_new w _)]
  simp

def S1 : Schema := [[(1, 0), (5, 0)]]
theorem S1_right : rightB S1 = true := rfl
theorem S1_pack : packS S1 = [2570#64] := rfl

theorem sch_S1 (w : World) : Sch ((w.alloc (.cells #[.int .i64 1, .int .i64 0, .int .i64 5, .int .i64 0] 30)).alloc (.cells #[.slice (some ⟨w.heap.size, 0, none⟩) 2 2] 28)) (.slice (some ⟨w.heap.size + 1, 0, none⟩) 1 1) S1 := by
  have h1 := row_new w #[.int .i64 1, .int .i64 0, .int .i64 5, .int .i64 0] 30 2 2 rfl (by simp [maxLen])
  have h2 := row_new (w.alloc (.cells #[.int .i64 1, .int .i64 0, .int .i64 5, .int .i64 0] 30)) #[.slice (some ⟨w.heap.size, 0, none⟩) 2 2] 28 1 1 rfl (by simp [maxLen])
  have e : (w.alloc (.cells #[.int .i64 1, .int .i64 0, .int .i64 5, .int .i64 0] 30)).heap.size = w.heap.size + 1 := by simp
  rw [e] at h2
  refine ⟨_, h2, fun i l hl => ?_⟩
  match i, hl with
  | 0, hl =>
    obtain rfl := Option.some.inj hl
    exact ⟨_, rfl, h1.below (below_alloc _ _) (Nat.le_refl _)⟩
  | i + 1, hl => simp [S1] at hl

set_option maxHeartbeats 1000000 in
theorem awake05 (w : World) : Calls Tryd.prog 11 #[] w fun r w' => r = .returned (.bool true) ∧ Below w.heap.size w w' := by
  have hS := sch_S1 w
  have hb := (below_alloc w (.cells #[.int .i64 1, .int .i64 0, .int .i64 5, .int .i64 0] 30)).alloc (by simp) (.cells #[.slice (some ⟨w.heap.size, 0, none⟩) 2 2] 28)
  have hp := pack5_yes S1 _ _ hS S1_right
  go_enter Tryd.func11, Tryd.ntmps11
  go_wp2_with ((refine hp.mono ?_); rintro r1 w1 ⟨v1, rfl, hb1, hr1⟩; rw [S1_pack] at hr1; obtain ⟨bq, oq, cq, rfl, hx1, hx2, hx3, hcq⟩ := hr1.cons (by decide); have c0 : w1.cell? ⟨bq, oq, none⟩ = some (U 2570#64) := hcq 0 (by decide); clear hcq hr1 hx1 hx2 hx3)
  go_ret
  exact ⟨rfl, hb.trans (hb1.mono (by simp; omega))⟩
end Go.Proofs.YtbhnbjaafejcjaaDoor


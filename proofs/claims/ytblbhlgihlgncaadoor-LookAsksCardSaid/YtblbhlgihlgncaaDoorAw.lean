/- The schema of the chapters' examples: one type, a number and a row of numbers. -/
import Derived.Test.YtblbhlgihlgncaaDoorGa
set_option linter.unusedVariables false
set_option linter.unusedSimpArgs false
namespace Go.Proofs.YtblbhlgihlgncaaDoor
section SAw
open Go.RowKit

theorem row_new (w : World) (cs : Array Value) (T : TypeId) (sz n : Nat) (h : cs.size = n * sz) (hm : n ≤ maxLen) : Row (w.alloc (.cells cs T)) sz (.slice (some ⟨w.heap.size, 0, none⟩) n n) n cs.toList := by
  refine ⟨by simp [h], hm, some ⟨w.heap.size, 0, none⟩, n, rfl, Nat.le_refl _, hm, (fun h => by cases h), fun _ => ⟨w.heap.size, 0, rfl, by simp, fun j hj => ?_⟩⟩
  rw [Nat.zero_add, cell_of_row _ _ _ _ _ _ (heap_alloc_new w _)]
  simp

/-- The example's schema. -/
def S0 : Schema := [[(1, 0), (3, 0)]]
theorem S0_right : rightB S0 = true := rfl
theorem S0_len : (typeL S0 0).length = 2 := rfl
theorem S0_f1 : fieldP S0 0 1 = (3, 0) := rfl

theorem sch_S0 (w : World) : Sch ((w.alloc (.cells #[.int .i64 1, .int .i64 0, .int .i64 3, .int .i64 0] 24)).alloc (.cells #[.slice (some ⟨w.heap.size, 0, none⟩) 2 2] 25)) (.slice (some ⟨w.heap.size + 1, 0, none⟩) 1 1) S0 := by
  have h1 := row_new w #[.int .i64 1, .int .i64 0, .int .i64 3, .int .i64 0] 24 2 2 rfl (by simp [maxLen])
  have h2 := row_new (w.alloc (.cells #[.int .i64 1, .int .i64 0, .int .i64 3, .int .i64 0] 24)) #[.slice (some ⟨w.heap.size, 0, none⟩) 2 2] 25 1 1 rfl (by simp [maxLen])
  have e : (w.alloc (.cells #[.int .i64 1, .int .i64 0, .int .i64 3, .int .i64 0] 24)).heap.size = w.heap.size + 1 := by simp
  rw [e] at h2
  refine ⟨_, h2, fun i l hl => ?_⟩
  match i, hl with
  | 0, hl =>
    obtain rfl := Option.some.inj hl
    exact ⟨_, rfl, h1.below (below_alloc _ _) (Nat.le_refl _)⟩
  | i + 1, hl => simp [S0] at hl
end SAw

end Go.Proofs.YtblbhlgihlgncaaDoor


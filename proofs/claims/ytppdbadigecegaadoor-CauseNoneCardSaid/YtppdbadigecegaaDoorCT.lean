/- cause.Top: the topmost code of an error that is nothing, or a code itself. -/
import Derived.Test.YtppdbadigecegaaDoorCA
import Derived.Test.YtppdbadigecegaaDoorGa
set_option linter.unusedVariables false
set_option linter.unusedSimpArgs false
namespace Go.Proofs.YtppdbadigecegaaDoor
section SCT
open Go.RowKit Go.Extern.Stop Go.Stop Go.Extern

/-- The one listed variable: as the row's condition gives it. -/
def LaidE (w : World) : Prop := w.cell? ⟨0, 0, none⟩ = some (.iface 88 (.agg #[.pointer (some ⟨4, 25, none⟩)]))

theorem LaidE.pos {w : World} (h : LaidE w) : 0 < w.heap.size := by
  rcases Nat.eq_zero_or_pos w.heap.size with h0 | h'
  · simp [LaidE, World.cell?, h0] at h
  · exact h'

theorem LaidE.below {B : Nat} {w w' : World} (h : LaidE w) (hb : Below B w w') (hB : 0 < B) : LaidE w' :=
  (hb.cell (p := ⟨0, 0, none⟩) hB).trans h

/-- An error: nothing, or a code. -/
def ErrV (c : Int) : Value := if c = 0 then .nilIface else .iface 32 (.int .i64 c)

theorem top_nil (w : World) : Calls Tryd.prog 15 #[.nilIface] w fun e w' => e = .returned (.int .i64 0) ∧ Below w.heap.size w w' := by
  go_enter Tryd.func15, Tryd.ntmps15
  go_wp2_with (go_at_call 10; refine (as_nil _ _).mono ?_; rintro e w' ⟨rfl, rfl⟩)
  go_ret
  refine ⟨rfl, ?_⟩
  exact (Below.refl _ _).alloc (Nat.le_refl _) _

set_option maxHeartbeats 1000000 in
theorem top_code (c : Int) (w : World) (hg : LaidE w) : Calls Tryd.prog 15 #[.iface 32 (.int .i64 c)] w fun e w' => e = .returned (.int .i64 c) ∧ Below w.heap.size w w' := by
  have hlt := hg.pos
  have hgA : (w.alloc (.cells #[.int .i64 0] 32)).cell? ⟨0, 0, none⟩ = some (.iface 88 (.agg #[.pointer (some ⟨4, 25, none⟩)])) := by
    rw [World.cell?_alloc_lt _ _ ⟨0, 0, none⟩ hlt]; exact hg
  have htA : (w.alloc (.cells #[.int .i64 0] 32)).cell? ⟨w.heap.size, 0, none⟩ = some (.int .i64 0) := by simp
  have hfA : (w.alloc (.cells #[.int .i64 0] 32)).frozen? ⟨w.heap.size, 0, none⟩ = false := by simp
  go_enter Tryd.func15, Tryd.ntmps15
  go_wp2_with (go_at_call 10; refine (as_hit _ _ (.int .i64 0) _ hgA htA hfA).mono ?_; rintro e w' ⟨rfl, rfl⟩)
  go_ret
  refine ⟨rfl, ?_⟩
  refine Below.alloc ?_ (by simp; omega) _
  refine Below.alloc ?_ (by simp; omega) _
  refine Below.alloc ?_ (by simp; omega) _
  refine Below.alloc ?_ (by simp) _
  exact (Below.refl _ w).alloc (Nat.le_refl _) _
end SCT

end Go.Proofs.YtppdbadigecegaaDoor


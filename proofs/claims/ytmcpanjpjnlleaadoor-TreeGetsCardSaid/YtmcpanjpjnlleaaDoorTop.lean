/- cause.Top: the topmost code of an error that is nothing, or a code itself. -/
import Derived.Test.YtmcpanjpjnlleaaDoorAs
set_option linter.unusedVariables false
namespace Go.Proofs.YtmcpanjpjnlleaaDoor
open Go.RowKit Go.Extern.Stop Go.Stop Go.Extern

/-- The one listed variable: as the row's condition gives it. -/
def LaidE (w : World) : Prop := w.cell? ⟨0, 0, none⟩ = some (.iface 115 (.agg #[.pointer (some ⟨1, 42, none⟩)]))

theorem LaidE.pos {w : World} (h : LaidE w) : 0 < w.heap.size := by
  rcases Nat.eq_zero_or_pos w.heap.size with h0 | h'
  · simp [LaidE, World.cell?, h0] at h
  · exact h'

theorem LaidE.below {B : Nat} {w w' : World} (h : LaidE w) (hb : Below B w w') (hB : 0 < B) : LaidE w' :=
  (hb.cell (p := ⟨0, 0, none⟩) hB).trans h

/-- An error: nothing, or a code. -/
def ErrV (c : Int) : Value := if c = 0 then .nilIface else .iface 45 (.int .i64 c)

theorem top_nil (w : World) : Calls Tryd.prog 15 #[.nilIface] w fun e w' => e = .returned (.int .i64 0) ∧ Below w.heap.size w w' := by
  go_enter Tryd.func15, Tryd.ntmps15
  go_wp2_with (go_at_call 31; refine (as_nil _ _).mono ?_; rintro e w' ⟨rfl, rfl⟩)
  go_ret
  refine ⟨rfl, ?_⟩
  exact (Below.refl _ _).alloc (Nat.le_refl _) _

set_option maxHeartbeats 1000000 in
theorem top_code (c : Int) (w : World) (hg : LaidE w) : Calls Tryd.prog 15 #[.iface 45 (.int .i64 c)] w fun e w' => e = .returned (.int .i64 c) ∧ Below w.heap.size w w' := by
  have hlt := hg.pos
  have hgA : (w.alloc (.cells #[.int .i64 0] 45)).cell? ⟨0, 0, none⟩ = some (.iface 115 (.agg #[.pointer (some ⟨1, 42, none⟩)])) := by
    rw [World.cell?_alloc_lt _ _ ⟨0, 0, none⟩ hlt]; exact hg
  have htA : (w.alloc (.cells #[.int .i64 0] 45)).cell? ⟨w.heap.size, 0, none⟩ = some (.int .i64 0) := by simp
  have hfA : (w.alloc (.cells #[.int .i64 0] 45)).frozen? ⟨w.heap.size, 0, none⟩ = false := by simp
  go_enter Tryd.func15, Tryd.ntmps15
  go_wp2_with (go_at_call 31; refine (as_hit _ _ (.int .i64 0) _ hgA htA hfA).mono ?_; rintro e w' ⟨rfl, rfl⟩)
  go_ret
  refine ⟨rfl, ?_⟩
  refine Below.alloc ?_ (by simp; omega) _
  refine Below.alloc ?_ (by simp; omega) _
  refine Below.alloc ?_ (by simp; omega) _
  refine Below.alloc ?_ (by simp) _
  exact (Below.refl _ w).alloc (Nat.le_refl _) _
end Go.Proofs.YtmcpanjpjnlleaaDoor


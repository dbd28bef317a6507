/- control.Unpack. -/
import Derived.Test.YtbhnbjaafejcjaaDoorPlCtl
set_option linter.unusedVariables false
namespace Go.Proofs.YtbhnbjaafejcjaaDoor
open Go.RowKit

def placeAt (k : Nat) : Int := [0, 16, 47, 48, 49, 64].getD k 0
def unX (x : BitVec 64) (j : Nat) : Int := (getV x (placeAt j) (partS j)).toInt

/-- The variables of Unpack behind k rounds. -/
structure Un (x : BitVec 64) (B M k : Nat) (w0 wr : World) : Prop where
  hN : ∀ j, j < 5 → wr.cell? ⟨M + 1 + 1, j, none⟩ = some (.int .i64 (if j < k then unX x j else 0))
  fN : ∀ j, j < 5 → wr.frozen? ⟨M + 1 + 1, j, none⟩ = false
  hS : ∀ j, j < 5 → wr.cell? ⟨M + 1, j, none⟩ = some (.int .i64 (partS j))
  hR : ∀ j, j < 5 → (wr.cell? ⟨B, j, none⟩).isSome = true
  fR : ∀ j, j < 5 → wr.frozen? ⟨B, j, none⟩ = false
  lt : M + 1 + 1 < wr.heap.size
  hb : Below B w0 wr

theorem Un.step {x : BitVec 64} {B M k : Nat} {w0 wr : World} (h : Un x B M k w0 wr) (hk : k < 5) (hBM : B < M) (q : Nat) :
    Un x B M (k + 1) w0 ((wr.drewN q).setCell ⟨M + 1 + 1, k, none⟩ (.int .i64 (unX x k))) := by
  have hcc : wr.cell? ⟨M + 1 + 1, k, none⟩ = some (.int .i64 0) := by simpa using h.hN k hk
  refine ⟨fun j hj => ?_, fun j hj => ?_, fun j hj => ?_, fun j hj => ?_, fun j hj => ?_, by simpa using h.lt, (h.hb.trans (below_drewN _ _ _)).setCell (by show B ≤ M + 1 + 1; omega) _⟩
  · by_cases hjk : j = k
    · subst hjk
      simp [go_sem, hcc, h.fN j hj]
    · have := h.hN j hj
      have hd : (j < k + 1) = (j < k) := by simp; omega
      simp only [hd]
      rw [← this]
      simp [go_sem, hjk, Ne.symm hjk]
  · simpa [go_sem] using h.fN j hj
  · have := h.hS j hj
    rw [← this]
    simp [go_sem]
  · have := h.hR j hj
    have hne : B ≠ M + 1 + 1 := by omega
    rw [← this]
    simp [go_sem, hne, Ne.symm hne]
  · simpa [go_sem] using h.fR j hj

set_option maxHeartbeats 1000000 in
theorem unpack_walk (x : BitVec 64) (w : World) :
    Calls Tryd.prog 30 #[U x] w fun r w' => r = .returned (CV (unX x 4) (unX x 1) (unX x 0) (decide (unX x 3 = 1)) (decide (unX x 2 = 1))) ∧ Below w.heap.size w w' := by
  go_enter Tryd.func30, Tryd.ntmps30
  go_wp2_with fail
  ((refine (parts_any 0 0 0 false false _).mono ?_); rintro e1 w1 ⟨rfl, hb1⟩)
  go_wp2_with fail
  obtain ⟨hb, hc⟩ := box_kept hb1
  have hfz : ∀ j, w1.frozen? ⟨w.heap.size, j, none⟩ = false := fun j => by
    rw [hb1.frozen (p := ⟨w.heap.size, j, none⟩) (by simp)]; simp
  have hlt : w.heap.size < w1.heap.size := by have := hb1.size; simp at this; omega
  clear hb1
  obtain ⟨M, hM⟩ : ∃ M, M = w1.heap.size := ⟨_, rfl⟩
  have hu : Un x w.heap.size M 0 w (((w1.alloc (.cells #[.int .i64 0, .int .i64 0, .int .i64 (b01 false), .int .i64 (b01 false), .int .i64 0] 100)).alloc (.cells #[.int .i64 16, .int .i64 31, .int .i64 1, .int .i64 1, .int .i64 15] 100)).alloc (.cells #[.int .i64 0, .int .i64 0, .int .i64 0, .int .i64 0, .int .i64 0] 100)) := by
    subst hM
    have h5 : ∀ j, j < 5 → j = 0 ∨ j = 1 ∨ j = 2 ∨ j = 3 ∨ j = 4 := fun j hj => by omega
    have hne : w.heap.size ≠ w1.heap.size := by omega
    have hlt2 : w.heap.size < w1.heap.size + 1 := by omega
    have hlt3 : w.heap.size < w1.heap.size + 1 + 1 := by omega
    refine ⟨fun j hj => ?_, fun j hj => ?_, fun j hj => ?_, fun j hj => ?_, fun j hj => ?_, by simp, by go_grown⟩
    · rcases h5 j hj with rfl | rfl | rfl | rfl | rfl <;> simp [go_sem]
    · rcases h5 j hj with rfl | rfl | rfl | rfl | rfl <;> simp [go_sem]
    · rcases h5 j hj with rfl | rfl | rfl | rfl | rfl <;> simp [go_sem, partS]
    · rw [World.cell?_alloc_lt _ _ ⟨w.heap.size, j, none⟩ (by simp; omega), World.cell?_alloc_lt _ _ ⟨w.heap.size, j, none⟩ (by simp; omega), World.cell?_alloc_lt _ _ ⟨w.heap.size, j, none⟩ hlt, hc j]
      rcases h5 j hj with rfl | rfl | rfl | rfl | rfl <;> rfl
    · rw [World.frozen?_alloc_old _ _ ⟨w.heap.size, j, none⟩ (by simp; omega), World.frozen?_alloc_old _ _ ⟨w.heap.size, j, none⟩ (by simp; omega), World.frozen?_alloc_old _ _ ⟨w.heap.size, j, none⟩ (Nat.ne_of_lt hlt)]
      exact hfz j
  rw [← hM]
  rw [← hM] at hlt
  clear hM hc hfz hb
  generalize (((w1.alloc (.cells #[.int .i64 0, .int .i64 0, .int .i64 (b01 false), .int .i64 (b01 false), .int .i64 0] 100)).alloc (.cells #[.int .i64 16, .int .i64 31, .int .i64 1, .int .i64 1, .int .i64 15] 100)).alloc (.cells #[.int .i64 0, .int .i64 0, .int .i64 0, .int .i64 0, .int .i64 0] 100)) = w2 at *
  go_loopw [6, 13] (fun a i wr => ∃ k : Nat, k ≤ 5 ∧ i = .int .i64 k ∧ a = .int .i64 (placeAt k) ∧ Un x w.heap.size M k w wr) (fun _ i _ => 5 - (intOf i).toNat)
  case atStart => exact ⟨0, by omega, rfl, rfl, hu⟩
  case round =>
    clear hu
    obtain ⟨k, hk, rfl, rfl, hu⟩ := hrel
    by_cases hlt5 : k < 5
    · have hBk := hu.hS k hlt5
      have hNk := hu.hN k hlt5
      have hFk := hu.fN k hlt5
      rw [if_neg (Nat.lt_irrefl k)] at hNk
      have hbd : 0 ≤ placeAt k ∧ placeAt k ≤ 64 ∧ 0 ≤ partS k ∧ partS k ≤ 64 ∧ placeAt (k + 1) = placeAt k + partS k := by
        have : k = 0 ∨ k = 1 ∨ k = 2 ∨ k = 3 ∨ k = 4 := by omega
        rcases this with rfl | rfl | rfl | rfl | rfl <;> decide
      go_wp2_with fail
      ((with_reducible refine (get_any _ _ _ _ (by omega)).mono ?_); rintro e2 w2 ⟨rfl, k2, rfl⟩)
      go_wp2_with fail
      go_roundw
      case rel => exact ⟨k + 1, by omega, by go_num, by rw [hbd.2.2.2.2], hu.step hlt5 hlt k2⟩
      case measure => simp [intOf] <;> omega
    · obtain rfl : k = 5 := by omega
      have n0 := hu.hN 0 (by omega)
      have n1 := hu.hN 1 (by omega)
      have n2 := hu.hN 2 (by omega)
      have n3 := hu.hN 3 (by omega)
      have n4 := hu.hN 4 (by omega)
      rw [if_pos (by omega)] at n0 n1 n2 n3 n4
      obtain ⟨v0, r0⟩ := Option.isSome_iff_exists.1 (hu.hR 0 (by omega))
      obtain ⟨v1, r1⟩ := Option.isSome_iff_exists.1 (hu.hR 1 (by omega))
      obtain ⟨v2, r2⟩ := Option.isSome_iff_exists.1 (hu.hR 2 (by omega))
      obtain ⟨v3, r3⟩ := Option.isSome_iff_exists.1 (hu.hR 3 (by omega))
      obtain ⟨v4, r4⟩ := Option.isSome_iff_exists.1 (hu.hR 4 (by omega))
      have f0 := hu.fR 0 (by omega)
      have f1 := hu.fR 1 (by omega)
      have f2 := hu.fR 2 (by omega)
      have f3 := hu.fR 3 (by omega)
      have f4 := hu.fR 4 (by omega)
      have hbl := hu.hb
      clear hu
      go_wp2_with fail
      (try simp only [Exit.inBlock, Exit.then])
      refine bodyPost_ret (by simp [results, Tryd.results30, go_sem, r0, r1, r2, r3, r4]; try rfl) rfl ?_
      refine ⟨rfl, ?_⟩
      go_grown
end Go.Proofs.YtbhnbjaafejcjaaDoor


/- intagliolaw06.awake: the chapter's example. -/
import Derived.Test.YtmcpanjpjnlleaaDoorTrGetC
set_option linter.unusedVariables false
namespace Go.Proofs.YtmcpanjpjnlleaaDoor
open Go.RowKit

theorem row_new (w : World) (cs : Array Value) (T : TypeId) (sz n : Nat) (h : cs.size = n * sz) (hm : n ≤ maxLen) : Row (w.alloc (.cells cs T)) sz (.slice (some ⟨w.heap.size, 0, none⟩) n n) n cs.toList := by
  refine ⟨by simp [h], hm, some ⟨w.heap.size, 0, none⟩, n, rfl, Nat.le_refl _, hm, (fun h => by cases h), fun _ => ⟨w.heap.size, 0, rfl, by simp, fun j hj => ?_⟩⟩
  rw [Nat.zero_add, cell_of_row _ _ _ _ _ _ (heap_alloc_new w _)]
  simp

def S2 : Schema := [[(1, 0), (3, 0)]]
theorem S2_right : rightB S2 = true := rfl
theorem sch_S2 (w : World) : Sch ((w.alloc (.cells #[.int .i64 1, .int .i64 0, .int .i64 3, .int .i64 0] 55)).alloc (.cells #[.slice (some ⟨w.heap.size, 0, none⟩) 2 2] 56)) (.slice (some ⟨w.heap.size + 1, 0, none⟩) 1 1) S2 := by
  have h1 := row_new w #[.int .i64 1, .int .i64 0, .int .i64 3, .int .i64 0] 55 2 2 rfl (by simp [maxLen])
  have h2 := row_new (w.alloc (.cells #[.int .i64 1, .int .i64 0, .int .i64 3, .int .i64 0] 55)) #[.slice (some ⟨w.heap.size, 0, none⟩) 2 2] 56 1 1 rfl (by simp [maxLen])
  have e : (w.alloc (.cells #[.int .i64 1, .int .i64 0, .int .i64 3, .int .i64 0] 55)).heap.size = w.heap.size + 1 := by simp
  rw [e] at h2
  refine ⟨_, h2, fun i l hl => ?_⟩
  match i, hl with
  | 0, hl =>
    obtain rfl := Option.some.inj hl
    exact ⟨_, rfl, h1.below (below_alloc _ _) (Nat.le_refl _)⟩
  | i + 1, hl => simp [S2] at hl

/-- The example's struct. -/
def T2 : St 1 := (⟨0#64, ⟨#[]⟩, [], [⟨7#64, ⟨#[]⟩, [], []⟩, ⟨0#64, ⟨#[]⟩, [5#64, 6#64], []⟩]⟩ : Node (Node (St 0)))
theorem T2_check : checkC S2 1 0 T2 = 0 := by
  rw [checkC, if_pos ⟨S2_right, by decide, by decide⟩]
  rfl
theorem rd_T2 (w : World) : RdS 1 ((w.alloc (.cells #[U 5#64, U 6#64] 30)).alloc (.cells #[U 7#64, .string ⟨#[]⟩, .slice none 0 0, .slice none 0 0, U 0#64, .string ⟨#[]⟩, .slice (some ⟨w.heap.size, 0, none⟩) 2 2, .slice none 0 0] 34))
    [U 0#64, .string ⟨#[]⟩, .slice none 0 0, .slice (some ⟨w.heap.size + 1, 0, none⟩) 2 2] T2 := by
  have h1 := row_new w #[U 5#64, U 6#64] 30 1 2 rfl (by simp [maxLen])
  have h2 := row_new (w.alloc (.cells #[U 5#64, U 6#64] 30)) #[U 7#64, .string ⟨#[]⟩, .slice none 0 0, .slice none 0 0, U 0#64, .string ⟨#[]⟩, .slice (some ⟨w.heap.size, 0, none⟩) 2 2, .slice none 0 0] 34 4 2 rfl (by simp [maxLen])
  have e : (w.alloc (.cells #[U 5#64, U 6#64] 30)).heap.size = w.heap.size + 1 := by simp
  rw [e] at h2
  have hz : ∀ W : World, Row W 1 (.slice none 0 0) 0 [] := fun W => Row.nil W 1
  refine RdN.mk' (t := (T2 : Node (Node (St 0)))) ⟨by show (⟨#[]⟩ : ByteArray).size ≤ 1000; decide, by show 0 ≤ 1000; omega, by show 2 ≤ 1000; omega⟩ (hz _) ⟨_, h2, fun i k hk => ?_⟩
  match i, hk with
  | 0, hk =>
    obtain rfl := Option.some.inj hk
    exact RdN.mk' (t := ⟨7#64, ⟨#[]⟩, [], []⟩) ⟨by show (⟨#[]⟩ : ByteArray).size ≤ 1000; decide, by simp, by simp⟩ (hz _) (Kids.nil _ _)
  | 1, hk =>
    obtain rfl := Option.some.inj hk
    exact RdN.mk' (t := ⟨0#64, ⟨#[]⟩, [5#64, 6#64], []⟩) ⟨by show (⟨#[]⟩ : ByteArray).size ≤ 1000; decide, by simp, by simp⟩ (h1.below (below_alloc _ _) (Nat.le_refl _)) (Kids.nil _ _)
  | i + 2, hk => simp [T2] at hk

theorem T2_get : getC S2 1 0 T2 [1, 0] = (5#64, 0) := by rw [getC, if_pos T2_check]; rfl

set_option maxRecDepth 100000 in
set_option maxHeartbeats 4000000 in
theorem awake06 (w : World) (hl : LaidE w) : Calls Tryd.prog 9 #[] w fun r w' => r = .returned (.bool true) ∧ Below w.heap.size w w' := by
  obtain ⟨w2, hw2⟩ : ∃ w2, w2 = (w.alloc (.cells #[.int .i64 1, .int .i64 0, .int .i64 3, .int .i64 0] 55)).alloc (.cells #[.slice (some ⟨w.heap.size, 0, none⟩) 2 2] 56) := ⟨_, rfl⟩
  have e2 : w2.heap.size = w.heap.size + 1 + 1 := by rw [hw2]; simp
  have hb2 : Below w.heap.size w w2 := by rw [hw2]; exact (below_alloc _ _).alloc (by simp) _
  have hS2 : Sch w2 (.slice (some ⟨w.heap.size + 1, 0, none⟩) 1 1) S2 := by rw [hw2]; exact sch_S2 w
  obtain ⟨w4, hw4⟩ : ∃ w4, w4 = (w2.alloc (.cells #[U 5#64, U 6#64] 30)).alloc (.cells #[U 7#64, .string ⟨#[]⟩, .slice none 0 0, .slice none 0 0, U 0#64, .string ⟨#[]⟩, .slice (some ⟨w2.heap.size, 0, none⟩) 2 2, .slice none 0 0] 34) := ⟨_, rfl⟩
  have e4 : w4.heap.size = w2.heap.size + 1 + 1 := by rw [hw4]; simp
  have hb4 : Below w2.heap.size w2 w4 := by rw [hw4]; exact (below_alloc _ _).alloc (by simp) _
  have hR4 : RdS 1 w4 [U 0#64, .string ⟨#[]⟩, .slice none 0 0, .slice (some ⟨w2.heap.size + 1, 0, none⟩) 2 2] T2 := by rw [hw4]; exact rd_T2 w2
  have hb5 := below_alloc w4 (.cells #[.int .i64 1, .int .i64 0] 3)
  have hp5 : Ints (w4.alloc (.cells #[.int .i64 1, .int .i64 0] 3)) (.slice (some ⟨w4.heap.size, 0, none⟩) 2 2) [1, 0] := row_new w4 #[.int .i64 1, .int .i64 0] 3 1 2 rfl (by simp [maxLen])
  have hB := (via hb2 (via hb4 hb5))
  have hg := hid (tget_any S2 _ 1 0 T2 _ [1, 0] _ _ ((hS2.below hb4 (Nat.le_refl _)).below hb5 (Nat.le_refl _)) (hR4.below hb5 (Nat.le_refl _)) hp5)
  clear hS2 hR4 hp5 hb2 hb4 hb5
  rw [T2_get, e4, e2, hw4, e2, hw2] at hg
  rw [hw4, e2, hw2] at hB
  clear hw4 hw2 e4 e2 w4 w2
  go_enter Tryd.func9, Tryd.ntmps9
  go_wp2_with fail
  ((refine hg.out.mono ?_); rintro r1 w2 ⟨rfl, hb2⟩)
  have hB2 := hB.trans (hb2.mono hB.size)
  have hl2 := LaidE.below hl hB2 (LaidE.pos hl)
  have htop := top_err 0 w2 hl2
  rw [show ErrV 0 = .nilIface from rfl] at htop ⊢
  clear hg hb2 hB hl
  go_wp2_with fail
  ((refine htop.mono ?_); rintro r1 w3 ⟨rfl, hb3⟩)
  have hB3 := via hB2 hb3
  clear htop hB2 hb3 hl2
  go_wp2_with fail
  go_returns
  exact ⟨rfl, hB3⟩
end Go.Proofs.YtmcpanjpjnlleaaDoor


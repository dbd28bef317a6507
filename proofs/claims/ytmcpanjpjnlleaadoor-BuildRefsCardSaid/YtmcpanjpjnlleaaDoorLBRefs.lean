/- intagliolaw07.awake, and BuildRefs. -/
import Derived.Test.YtmcpanjpjnlleaaDoorBBuild
import Derived.Test.YtmcpanjpjnlleaaDoorRefSame
set_option linter.unusedVariables false
namespace Go.Proofs.YtmcpanjpjnlleaaDoor
open Go.RowKit

theorem tb8_T2 (w : World) (C : Array Value) (T T' : TypeId) (x0 x1 x2 x3 y0 y1 y2 y3 : Value) :
    TB8 ((w.alloc (.cells C T)).alloc (.cells #[x0, x1, x2, x3, y0, y1, y2, y3] T')) (w.heap.size + 1) x0 x1 x2 x3 y0 y1 y2 y3 := by
  have e : (w.alloc (.cells C T)).heap.size = w.heap.size + 1 := by simp
  rw [← e]
  exact ⟨by simp, by simp, by simp, by simp, by simp, by simp, by simp, by simp⟩

set_option maxRecDepth 100000 in
set_option maxHeartbeats 4000000 in
theorem awake07 (w : World) (hl : LaidE w) : Calls Tryd.prog 22 #[] w fun r w' => r = .returned (.bool true) ∧ Below w.heap.size w w' := by
  obtain ⟨w2, hw2⟩ : ∃ w2, w2 = (w.alloc (.cells #[.int .i64 1, .int .i64 0, .int .i64 3, .int .i64 0] 55)).alloc (.cells #[.slice (some ⟨w.heap.size, 0, none⟩) 2 2] 56) := ⟨_, rfl⟩
  have e2 : w2.heap.size = w.heap.size + 1 + 1 := by rw [hw2]; simp
  have hb2 : Below w.heap.size w w2 := by rw [hw2]; exact (below_alloc _ _).alloc (by simp) _
  have hS2 : Sch w2 (.slice (some ⟨w.heap.size + 1, 0, none⟩) 1 1) S2 := by rw [hw2]; exact sch_S2 w
  obtain ⟨w4, hw4⟩ : ∃ w4, w4 = (w2.alloc (.cells #[U 5#64, U 6#64] 30)).alloc (.cells #[U 7#64, .string ⟨#[]⟩, .slice none 0 0, .slice none 0 0, U 0#64, .string ⟨#[]⟩, .slice (some ⟨w2.heap.size, 0, none⟩) 2 2, .slice none 0 0] 34) := ⟨_, rfl⟩
  have e4 : w4.heap.size = w2.heap.size + 1 + 1 := by rw [hw4]; simp
  have hb4 : Below w2.heap.size w2 w4 := by rw [hw4]; exact (below_alloc _ _).alloc (by simp) _
  have hR4 : RdS 1 w4 [U 0#64, .string ⟨#[]⟩, .slice none 0 0, .slice (some ⟨w2.heap.size + 1, 0, none⟩) 2 2] T2 := by rw [hw4]; exact rd_T2 w2
  have hT4 : TB8 w4 (w2.heap.size + 1) (U 7#64) (.string ⟨#[]⟩) (.slice none 0 0) (.slice none 0 0) (U 0#64) (.string ⟨#[]⟩) (.slice (some ⟨w2.heap.size, 0, none⟩) 2 2) (.slice none 0 0) := by rw [hw4]; exact tb8_T2 w2 _ _ _ _ _ _ _ _ _ _ _
  have hN4 : Row w4 1 (.slice (some ⟨w2.heap.size, 0, none⟩) 2 2) 2 ([5#64, 6#64].map U) := by
    rw [hw4]
    have h1 := row_new w2 #[U 5#64, U 6#64] 30 1 2 rfl (by simp [maxLen])
    exact h1.below (below_alloc _ _) (Nat.le_refl _)
  have hB := via hb2 hb4
  have hg := hid (build_T2 _ _ _ w4 (hS2.below hb4 (Nat.le_refl _)) hR4 hT4 (by omega) hN4 (by omega))
  clear hS2 hR4 hT4 hN4 hb2 hb4
  rw [e4, e2, hw4, e2, hw2] at hg
  rw [hw4, e2, hw2] at hB
  clear hw4 hw2 e4 e2 w4 w2
  go_enter Tryd.func22, Tryd.ntmps22
  go_wp2_with fail
  ((refine hg.out.mono ?_); rintro r1 w2 ⟨⟨wv, rfl, hwv⟩, hb2⟩)
  have hB2 := hB.trans (hb2.mono (by omega))
  have hb3 := below_alloc w2 (.cells #[U 5#64, U 7#64, U 8589934593#64, U 5#64, U 6#64] 30)
  have hB3 := via hB2 hb3
  have hsame := same_any _ [5#64, 7#64, 8589934593#64, 5#64, 6#64] _ _ _ _ _ (hwv.below hb3 (Nat.le_refl _)) (row_new w2 #[U 5#64, U 7#64, U 8589934593#64, U 5#64, U 6#64] 30 1 5 rfl (by simp [maxLen]))
  rw [show ([5#64, 7#64, 8589934593#64, 5#64, 6#64] == [5#64, 7#64, 8589934593#64, 5#64, 6#64]) = true from rfl] at hsame
  clear hg hb2 hB hb3
  go_wp2_with fail
  ((refine hsame.mono ?_); rintro r1 w3 ⟨rfl, k, rfl⟩)
  have hB4 := hB3.trans (below_drewN _ _ k)
  have hl3 := LaidE.below hl hB4 (LaidE.pos hl)
  have htop := top_err 0 _ hl3
  rw [show ErrV 0 = .nilIface from rfl] at htop
  clear hsame hl3
  generalize World.drewN _ k = w3 at *
  go_wp2_with fail
  ((refine htop.mono ?_); rintro r1 w4 ⟨rfl, hb4⟩)
  have hB5 := via hB4 hb4
  clear htop
  go_wp2_with fail
  go_returns
  exact ⟨rfl, hB5⟩
theorem refV_back (x : BitVec 64) : refV (loV x) (hiV x) = x := by
  apply BitVec.eq_of_toNat_eq
  have h := x.isLt
  rw [refV_nat]
  unfold loV hiV
  omega
theorem lo_and (x : BitVec 64) : (x &&& 4294967295#64).toInt = loV x := by
  have e : (x &&& 4294967295#64).toNat = x.toNat % 4294967296 := by
    rw [BitVec.toNat_and, show (4294967295#64).toNat = 2 ^ 32 - 1 from rfl, Nat.and_two_pow_sub_one_eq_mod]
  rw [BitVec.toInt_eq_toNat_cond, e, if_pos (by omega)]
  rfl
theorem lo_ref (a b : Int) : loV (refV a b) = a % 4294967296 := by
  have h1 := half_nat a
  unfold loV
  rw [refV_nat]
  omega
theorem hi_ref (a b : Int) : hiV (refV a b) = b % 4294967296 := by
  have h1 := half_nat a
  have h2 := half_nat b
  unfold hiV
  rw [refV_nat]
  omega

set_option maxRecDepth 100000 in
set_option maxHeartbeats 4000000 in
theorem law_BuildRefs (offset n : Int) (x : BitVec 64) (w : World) (hl : LaidE w) (ho : -9223372036854775808 ≤ offset ∧ offset ≤ 9223372036854775807) (hn : -9223372036854775808 ≤ n ∧ n ≤ 9223372036854775807) :
    Calls Tryd.prog 8 #[.int .i64 offset, .int .i64 n, U x] w fun r w' => r = .returned (.bool true) ∧ Below w.heap.size w w' := by
  have ha := hid (awake07 w hl)
  have hp1 := hid fun W => part_any x W
  have hp2 := hid fun W => part_any (refV offset n) W
  have hr1 := hid fun W => ref_any offset n W
  have hr2 := hid fun W => rref_any offset n W
  have hr3 := hid fun W => ref_any (loV x) (hiV x) W
  rw [refV_back] at hr3
  rw [lo_ref, hi_ref] at hp2
  have hlo := lo_and x
  have hhi := hi_shr x
  generalize hLx : loV x = L at *
  generalize hHx : hiV x = H at *
  generalize hRx : refV offset n = R at *
  clear hLx hHx hRx
  go_enter Tryd.func8, Tryd.ntmps8
  go_wp2_with fail
  ((refine ha.out.mono ?_); rintro r1 w2 ⟨rfl, hb2⟩)
  go_wp2_with (first | (with_reducible refine (hp1.out _).mono ?_; rintro r w3 ⟨rfl, rfl⟩) | (with_reducible refine (hp2.out _).mono ?_; rintro r w3 ⟨rfl, rfl⟩) | (with_reducible refine (hr1.out _).mono ?_; rintro r w3 ⟨rfl, rfl⟩) | (with_reducible refine (hr2.out _).mono ?_; rintro r w3 ⟨rfl, rfl⟩) | (with_reducible refine (hr3.out _).mono ?_; rintro r w3 ⟨rfl, rfl⟩))
  go_returns
  exact ⟨rfl, hb2⟩
end Go.Proofs.YtmcpanjpjnlleaaDoor


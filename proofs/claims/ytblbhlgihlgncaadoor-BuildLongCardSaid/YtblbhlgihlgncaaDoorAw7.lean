/- intagliolaw07.awake; and references, put together and taken apart. -/
import Derived.Test.YtblbhlgihlgncaaDoorGm
import Derived.Test.YtblbhlgihlgncaaDoorGe
import Derived.Test.YtblbhlgihlgncaaDoorGn
set_option linter.unusedVariables false
set_option linter.unusedSimpArgs false
namespace Go.Proofs.YtblbhlgihlgncaaDoor
section SAw7
open Go.RowKit

theorem T2_build : buildE S2 0 0 T2 = 0 ∧ buildL S2 0 0 T2 = [5#64, 7#64, 8589934593#64, 5#64, 6#64] := by
  have h : buildE S2 0 0 T2 = 0 := by rw [buildE, if_pos T2_check]; rfl
  refine ⟨h, ?_⟩
  rw [buildL, if_pos h]
  rfl
theorem build_T2 (sv : Value) (cs : List Value) (w : World) (hs : Sch w sv S2) (hr : RdS 1 w cs T2) :
    Calls Tryd.prog 6 #[sv, .int .i64 0, .agg cs.toArray] w
      fun e w' => (∃ wv, e = .returned (.tuple #[wv, .nilIface]) ∧ Row w' 1 wv 5 ([5#64, 7#64, 8589934593#64, 5#64, 6#64].map U)) ∧ Below w.heap.size w w' := by
  refine (build_any S2 sv 0 0 T2 cs w hs hr).mono ?_
  rintro e w' ⟨wv, he, hrow, hb⟩
  rw [T2_build.1] at he
  rw [T2_build.2] at hrow
  exact ⟨⟨wv, he, hrow⟩, hb⟩

set_option maxRecDepth 100000 in
set_option maxHeartbeats 4000000 in
theorem awake07 (w : World) (hl : LaidE w) : Calls Tryd.prog 5 #[] w fun r w' => r = .returned (.bool true) ∧ Below w.heap.size w w' := by
  obtain ⟨w2, hw2⟩ : ∃ w2, w2 = (w.alloc (.cells #[.int .i64 1, .int .i64 0, .int .i64 3, .int .i64 0] 24)).alloc (.cells #[.slice (some ⟨w.heap.size, 0, none⟩) 2 2] 25) := ⟨_, rfl⟩
  have e2 : w2.heap.size = w.heap.size + 1 + 1 := by rw [hw2]; simp
  have hb2 : Below w.heap.size w w2 := by rw [hw2]; exact (below_alloc _ _).alloc (by simp) _
  have hS2 : Sch w2 (.slice (some ⟨w.heap.size + 1, 0, none⟩) 1 1) S2 := by rw [hw2]; exact sch_S2 w
  obtain ⟨w4, hw4⟩ : ∃ w4, w4 = (w2.alloc (.cells #[U 5#64, U 6#64] 28)).alloc (.cells #[U 7#64, .string ⟨#[]⟩, .slice none 0 0, .slice none 0 0, U 0#64, .string ⟨#[]⟩, .slice (some ⟨w2.heap.size, 0, none⟩) 2 2, .slice none 0 0] 32) := ⟨_, rfl⟩
  have e4 : w4.heap.size = w2.heap.size + 1 + 1 := by rw [hw4]; simp
  have hb4 : Below w2.heap.size w2 w4 := by rw [hw4]; exact (below_alloc _ _).alloc (by simp) _
  have hR4 : RdS 1 w4 [U 0#64, .string ⟨#[]⟩, .slice none 0 0, .slice (some ⟨w2.heap.size + 1, 0, none⟩) 2 2] T2 := by rw [hw4]; exact rd_T2 w2
  have hB := via hb2 hb4
  have hg := hid (build_T2 _ _ w4 (hS2.below hb4 (Nat.le_refl _)) hR4)
  clear hS2 hR4 hb2 hb4
  rw [e4, e2, hw4, e2, hw2] at hg
  rw [hw4, e2, hw2] at hB
  clear hw4 hw2 e4 e2 w4 w2
  go_enter Tryd.func5, Tryd.ntmps5
  go_wp2_with fail
  ((refine hg.out.mono ?_); rintro r1 w2 ⟨⟨wv, rfl, hwv⟩, hb2⟩)
  have hB2 := hB.trans (hb2.mono (by omega))
  have hb3 := below_alloc w2 (.cells #[U 5#64, U 7#64, U 8589934593#64, U 5#64, U 6#64] 28)
  have hB3 := via hB2 hb3
  have hsame := same_any _ [5#64, 7#64, 8589934593#64, 5#64, 6#64] _ _ _ _ _ (hwv.below hb3 (Nat.le_refl _)) (row_new w2 #[U 5#64, U 7#64, U 8589934593#64, U 5#64, U 6#64] 28 1 5 rfl (by simp [maxLen]))
  rw [show ([5#64, 7#64, 8589934593#64, 5#64, 6#64] == [5#64, 7#64, 8589934593#64, 5#64, 6#64]) = true from rfl] at hsame
  clear hg hb2 hB hb3
  go_wp2_with fail
  ((refine hsame.mono ?_); rintro r1 w3 ⟨rfl, k, rfl⟩)
  have hB4 := hB3.trans (below_drewN _ _ k)
  have hl3 := LaidE.below hl hB4 (LaidE.pos hl)
  have htop := top_err 0 _ hl3
  rw [show ErrV 0 = .nilIface from rfl] at htop
  clear hsame hl3
  generalize World.drewN _ k = w3 at *
  go_wp2_with fail
  ((refine htop.mono ?_); rintro r1 w4 ⟨rfl, hb4⟩)
  have hB5 := via hB4 hb4
  clear htop
  go_wp2_with fail
  go_returns
  exact ⟨rfl, hB5⟩
theorem refV_back (x : BitVec 64) : refV (loV x) (hiV x) = x := by
  apply BitVec.eq_of_toNat_eq
  have h := x.isLt
  rw [refV_nat]
  unfold loV hiV
  omega
theorem lo_and (x : BitVec 64) : (x &&& 4294967295#64).toInt = loV x := by
  have e : (x &&& 4294967295#64).toNat = x.toNat % 4294967296 := by
    rw [BitVec.toNat_and, show (4294967295#64).toNat = 2 ^ 32 - 1 from rfl, Nat.and_two_pow_sub_one_eq_mod]
  rw [BitVec.toInt_eq_toNat_cond, e, if_pos (by omega)]
  rfl
theorem lo_ref (a b : Int) : loV (refV a b) = a % 4294967296 := by
  have h1 := half_nat a
  unfold loV
  rw [refV_nat]
  omega
theorem hi_ref (a b : Int) : hiV (refV a b) = b % 4294967296 := by
  have h1 := half_nat a
  have h2 := half_nat b
  unfold hiV
  rw [refV_nat]
  omega
theorem build_yes {s : Schema} {sv : Value} {d : Nat} {t : Int} {v : St (d + 1)} {cs : List Value} {w : World} (hs : Sch w sv s) (h : RdS (d + 1) w cs v) (hE : buildE s d t v = 0) :
    Calls Tryd.prog 6 #[sv, .int .i64 t, .agg cs.toArray] w fun e w' => ∃ wv, e = .returned (.tuple #[wv, .nilIface]) ∧ Row w' 1 wv (buildW s d t v).length ((buildW s d t v).map U) ∧ Below w.heap.size w w' := by
  refine (build_any s sv d t v cs w hs h).mono ?_
  rintro e w' ⟨wv, he, hrow, hb⟩
  rw [hE] at he
  rw [buildL, if_pos hE] at hrow
  exact ⟨wv, he, hrow, hb⟩
theorem build_no {s : Schema} {sv : Value} {d : Nat} {t : Int} {v : St (d + 1)} {cs : List Value} {w : World} (hs : Sch w sv s) (h : RdS (d + 1) w cs v) {x : Int} (hE : buildE s d t v = x) (hx : x ≠ 0) :
    Calls Tryd.prog 6 #[sv, .int .i64 t, .agg cs.toArray] w fun e w' => ∃ a c, e = .returned (.tuple #[.slice a 0 c, .iface 37 (.int .i64 x)]) ∧ Below w.heap.size w w' := by
  refine (build_any s sv d t v cs w hs h).mono ?_
  rintro e w' ⟨wv, he, hrow, hb⟩
  rw [hE, errV_ne hx] at he
  rw [buildL, if_neg (by rw [hE]; exact hx)] at hrow
  obtain ⟨a, c, e2, _⟩ := hrow.open
  exact ⟨a, c, by rw [he, e2]; rfl, hb⟩
end SAw7

end Go.Proofs.YtblbhlgihlgncaaDoor


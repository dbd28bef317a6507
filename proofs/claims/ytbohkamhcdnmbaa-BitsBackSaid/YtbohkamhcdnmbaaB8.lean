import Derived.Test.YtbohkamhcdnmbaaB7
set_option linter.unusedVariables false
namespace Go.Proofs.Ytbohkamhcdnmbaa
open Go.RowKit

set_option maxHeartbeats 400000 in
theorem tells_any (w0 v : BitVec 64) (p0 n : Int) (w : World) (hn : -9223372036854775808 ≤ n ∧ n ≤ 9223372036854775807) :
    Calls Try.prog 15 #[U w0, U v, .int .i64 p0, .int .i64 n] w fun e w' => e = .returned (.bool true) ∧ ∃ k, w' = w.drewN k := by
  generalize hx : (if setOk p0 n v then setV w0 p0 n v else w0) = x
  generalize hok : setOk p0 n v = b
  have Hs := hid (fun w => set_any w0 v p0 n w hn)
  have Hr := hid (fun w => rset_any w0 v p0 n w hn)
  rw [hx, hok] at Hs Hr
  clear hx hok
  have Hb : Hid ((b == b) = true) := by show _ = _; simp
  go_enter Try.func15, Try.ntmps15
  go_wp2_with fail
  refine (Hs.out _).mono ?_
  rintro e w' ⟨rfl, k, rfl⟩
  go_wp2_with fail
  refine (Hr.out _).mono ?_
  rintro e w' ⟨rfl, rfl⟩
  go_wp2_with fail
  ((with_reducible refine (get_any _ _ _ _ (by omega)).mono ?_); rintro e w' ⟨rfl, k2, rfl⟩)
  go_wp2_with fail
  ((with_reducible refine (rget_any _ _ _ _ (by omega)).mono ?_); rintro e w' ⟨rfl, rfl⟩)
  go_wp2_with fail
  go_ret
  exact ⟨rfl, _, rfl⟩

set_option maxHeartbeats 800000 in
theorem law_BitsTell (w0 v : BitVec 64) (q0 q1 : Int) (w : World) (hq0 : -9223372036854775808 ≤ q0 ∧ q0 ≤ 9223372036854775807) (hq1 : -9223372036854775808 ≤ q1 ∧ q1 ≤ 9223372036854775807) :
    Calls Try.prog 7 #[U w0, U v, .agg #[.int .i64 q0, .int .i64 q1]] w fun e w' => e = .returned (.bool true) ∧ Below w.heap.size w w' := by
  go_enter Try.func7, Try.ntmps7
  go_wp2_with fail
  refine (awake_any _).mono ?_
  rintro e w1 ⟨rfl, hb⟩
  obtain ⟨hb, hc⟩ := box_kept hb
  have hc0 := hc 0
  have hc1 := hc 1
  generalize hB : w.heap.size = B at *
  have c0 : ∀ k, (w1.drewN k).cell? ⟨B, 0, none⟩ = some (.int .i64 q0) := fun k => hc0
  have c1 : ∀ k, (w1.drewN k).cell? ⟨B, 1, none⟩ = some (.int .i64 q1) := fun k => hc1
  have d0 : w1.cell? ⟨B, 0, none⟩ = some (.int .i64 q0) := hc0
  have d1 : w1.cell? ⟨B, 1, none⟩ = some (.int .i64 q1) := hc1
  have Hb := hid hb
  have HB := hid hB
  clear hb hc hc0 hc1 hB
  go_wp2_with fail
  refine (tells_any _ _ _ _ _ (by omega)).mono ?_
  rintro e w' ⟨rfl, k0, rfl⟩
  go_wp2_with fail
  refine (tells_any _ _ _ _ _ (by omega)).mono ?_
  rintro e w' ⟨rfl, k1, rfl⟩
  go_wp2_with fail
  refine (tells_any _ _ _ _ _ (by omega)).mono ?_
  rintro e w' ⟨rfl, k2, rfl⟩
  go_wp2_with fail
  refine (mix_any _ _).mono ?_
  rintro e w' ⟨rfl, rfl⟩
  go_wp2_with fail
  refine (rmix_any _ _).mono ?_
  rintro e w' ⟨rfl, rfl⟩
  go_wp2_with fail
  go_ret
  have hb := Hb.out
  rw [← HB.out] at hb
  exact ⟨rfl, hb.trans (below_drewN _ _ _)⟩

end Go.Proofs.Ytbohkamhcdnmbaa

import Derived.Test.YtbohkamhcdnmbaaB11
import Derived.Deep.QuietTactic
import Derived.BigQuiet
set_option linter.unusedVariables false
namespace Go.Proofs.Ytbohkamhcdnmbaa
open Go.RowKit

theorem shut_words {w : World} {v : Value} {c : Nat} {s : ByteArray} (h : Row w 1 v (countV s.size).toNat ((wordsV s.data.toList).map U)) : Row w 1 v (wordsV s.data.toList).length ((wordsV s.data.toList).map U) := by
  have : (wordsV s.data.toList).length = (countV s.size).toNat := by simp [wordsV]
  rw [this]; exact h

theorem below_cell {w w' : World} (hb : Below w.heap.size w w') {b o : Nat} {v : Value} (h : w.cell? ⟨b, o, none⟩ = some v) : w'.cell? ⟨b, o, none⟩ = some v := by
  rw [hb.cell (p := ⟨b, o, none⟩) (World.block_lt_of_cell? w ⟨b, o, none⟩ (by rw [h]))]; exact h

/-- What the law's later calls find. -/
structure TSt (w w' : World) (B : Nat) (q0 q1 : Int) (v : Value) (ys : List (BitVec 64)) : Prop where
  below : Below w.heap.size w w'
  c0 : w'.cell? ⟨B, 0, none⟩ = some (.int .i64 q0)
  c1 : w'.cell? ⟨B, 1, none⟩ = some (.int .i64 q1)
  row : Row w' 1 v ys.length (ys.map U)

theorem TSt.step {w w' w'' : World} {B : Nat} {q0 q1 : Int} {v : Value} {ys : List (BitVec 64)} (h : TSt w w' B q0 q1 v ys) (hb : Below w'.heap.size w' w'') : TSt w w'' B q0 q1 v ys :=
  ⟨h.below.trans (hb.mono h.below.size), below_cell hb h.c0, below_cell hb h.c1, h.row.below hb (Nat.le_refl _)⟩

set_option maxRecDepth 100000 in
set_option maxHeartbeats 1000000 in
theorem law_BitsTexts (s : ByteArray) (v : Value) (n : Nat) (xs : List (BitVec 64)) (q0 q1 : Int) (w : World) (hr : Row w 1 v n (xs.map U)) (hs : s.size ≤ maxLen)
    (hq0 : -9223372036854775808 ≤ q0 ∧ q0 ≤ 9223372036854775807) (hq1 : -9223372036854775808 ≤ q1 ∧ q1 ≤ 9223372036854775807) :
    Calls Try.prog 8 #[.string s, v, .agg #[.int .i64 q0, .int .i64 q1]] w fun e w' => e = .returned (.bool true) ∧ Below w.heap.size w w' := by
  obtain ⟨a, cap, rfl, hnc, hcm, _⟩ := hr.open
  have hnm := hr.most
  have hxl : xs.length = n := by have := hr.len; simpa using this
  unfold maxLen at hcm hnm
  have ht := tmod_bd q0 70 (by decide)
  go_enter Try.func8, Try.ntmps8
  go_wp2_with fail
  refine (awake_any _).mono ?_
  rintro e w1 ⟨rfl, hb⟩
  obtain ⟨hb, hc⟩ := box_kept hb
  have hr1 := hr.below hb (Nat.le_refl _)
  have c0 : w1.cell? ⟨w.heap.size, 0, none⟩ = some (.int .i64 q0) := hc 0
  have c1 : w1.cell? ⟨w.heap.size, 1, none⟩ = some (.int .i64 q1) := hc 1
  go_wp2_with fail
  refine (short_any _ _ hs).mono ?_
  rintro e w' ⟨rfl, rfl⟩
  have hsz := shortV_size s
  generalize shortV s = s1 at *
  by_cases h8 : 8 < n
  · have S0 : TSt w w1 w.heap.size q0 q1 (.slice a 8 cap) (xs.take 8) := by
      refine ⟨hb, c0, c1, ?_⟩
      have := hr1.cut 8 (by omega)
      have hl : (xs.take 8).length = 8 := by rw [List.length_take]; omega
      rw [hl, List.map_take]; exact this
    have hl8 : (xs.take 8).length ≤ 8 := by rw [List.length_take]; omega
    generalize xs.take 8 = ys at *
    clear c0 c1 hr hr1 hb hc hxl hnm
    generalize hB : w.heap.size = B at *
    have HB := hid hB
    clear hB
    have c0 := S0.c0
    have c1 := S0.c1
    go_wp2_with fail
    refine (text_any ys _ _ _ S0.row hq0 (by omega)).mono ?_
    rintro e W1 ⟨rfl, hbb⟩
    have S1 := S0.step hbb
    clear S0 c0 c1 hbb
    have c0 := S1.c0
    have c1 := S1.c1
    go_wp2_with fail
    refine (rtext_any ys _ _ _ S1.row hq0 (by omega)).mono ?_
    rintro e W2 ⟨rfl, hbb⟩
    have S2 := S1.step hbb
    clear S1 c0 c1 hbb
    have c0 := S2.c0
    have c1 := S2.c1
    go_wp2_with fail
    refine (text_any ys _ _ _ S2.row (by omega) (by omega)).mono ?_
    rintro e W3 ⟨rfl, hbb⟩
    have S3 := S2.step hbb
    clear S2 c0 c1 hbb
    have c0 := S3.c0
    have c1 := S3.c1
    go_wp2_with fail
    refine (rtext_any ys _ _ _ S3.row (by omega) (by omega)).mono ?_
    rintro e W4 ⟨rfl, hbb⟩
    have S4 := S3.step hbb
    clear S3 c0 c1 hbb
    have c0 := S4.c0
    have c1 := S4.c1
    go_wp2_with fail
    refine (words_any s1 _ (by omega)).mono ?_
    rintro e W5 ⟨v3, rfl, hbb, hr3⟩
    have S5 := S4.step hbb
    clear S4 c0 c1 hbb
    go_wp2_with fail
    refine (rwords_any s1 _ (by omega)).mono ?_
    rintro e W6 ⟨v4, rfl, hbb, hr4⟩
    have S6 := S5.step hbb
    have hr3' := hr3.below hbb (Nat.le_refl _)
    clear S5 hbb hr3
    go_wp2_with fail
    refine (same_any _ _ _ _ _ _ _ hr3' hr4).mono ?_
    rw [beq_self_eq_true]
    rintro e w' ⟨rfl, k, rfl⟩
    have S7 := S6.step (below_drewN _ _ k)
    clear S6 hr3' hr4
    generalize W6.drewN k = W7 at *
    have c0 := S7.c0
    have c1 := S7.c1
    go_wp2_with fail
    go_quiet ((first
      | (go_at_call 22; exact Calls.quiet_of_same ((count_any _ _ (by omega)).mono fun _ _ ⟨a, b⟩ => ⟨a, b.symm⟩))
      | (go_at_call 23; exact Calls.quiet_of_same ((rcount_any _ _ (by omega)).mono fun _ _ ⟨a, b⟩ => ⟨a, b.symm⟩))
      | (go_at_call 24; exact Calls.quiet_of_same ((word_any _ _ _ (by unfold maxLen; omega)).mono fun _ _ ⟨a, b⟩ => ⟨a, b.symm⟩))
      | (go_at_call 25; exact Calls.quiet_of_same ((rword_any _ _ _ (by omega)).mono fun _ _ ⟨a, b⟩ => ⟨a, b.symm⟩))))
    go_wp2
    go_ret
    refine ⟨rfl, ?_⟩
    rw [HB.out]
    exact (HB.out ▸ S7.below).trans (below_drewN _ _ _)
  · have hx8 : xs.length ≤ 8 := by omega
    have S0 : TSt w w1 w.heap.size q0 q1 (.slice a n cap) xs := ⟨hb, c0, c1, by rw [hxl]; exact hr1⟩
    obtain ⟨ys, rfl⟩ : ∃ ys, ys = xs := ⟨_, rfl⟩
    clear c0 c1 hr hr1 hb hc hxl hnm
    generalize hB : w.heap.size = B at *
    have HB := hid hB
    clear hB
    have c0 := S0.c0
    have c1 := S0.c1
    go_wp2_with fail
    refine (text_any ys _ _ _ S0.row hq0 (by omega)).mono ?_
    rintro e W1 ⟨rfl, hbb⟩
    have S1 := S0.step hbb
    clear S0 c0 c1 hbb
    have c0 := S1.c0
    have c1 := S1.c1
    go_wp2_with fail
    refine (rtext_any ys _ _ _ S1.row hq0 (by omega)).mono ?_
    rintro e W2 ⟨rfl, hbb⟩
    have S2 := S1.step hbb
    clear S1 c0 c1 hbb
    have c0 := S2.c0
    have c1 := S2.c1
    go_wp2_with fail
    refine (text_any ys _ _ _ S2.row (by omega) (by omega)).mono ?_
    rintro e W3 ⟨rfl, hbb⟩
    have S3 := S2.step hbb
    clear S2 c0 c1 hbb
    have c0 := S3.c0
    have c1 := S3.c1
    go_wp2_with fail
    refine (rtext_any ys _ _ _ S3.row (by omega) (by omega)).mono ?_
    rintro e W4 ⟨rfl, hbb⟩
    have S4 := S3.step hbb
    clear S3 c0 c1 hbb
    have c0 := S4.c0
    have c1 := S4.c1
    go_wp2_with fail
    refine (words_any s1 _ (by omega)).mono ?_
    rintro e W5 ⟨v3, rfl, hbb, hr3⟩
    have S5 := S4.step hbb
    clear S4 c0 c1 hbb
    go_wp2_with fail
    refine (rwords_any s1 _ (by omega)).mono ?_
    rintro e W6 ⟨v4, rfl, hbb, hr4⟩
    have S6 := S5.step hbb
    have hr3' := hr3.below hbb (Nat.le_refl _)
    clear S5 hbb hr3
    go_wp2_with fail
    refine (same_any _ _ _ _ _ _ _ hr3' hr4).mono ?_
    rw [beq_self_eq_true]
    rintro e w' ⟨rfl, k, rfl⟩
    have S7 := S6.step (below_drewN _ _ k)
    clear S6 hr3' hr4
    generalize W6.drewN k = W7 at *
    have c0 := S7.c0
    have c1 := S7.c1
    go_wp2_with fail
    go_quiet ((first
      | (go_at_call 22; exact Calls.quiet_of_same ((count_any _ _ (by omega)).mono fun _ _ ⟨a, b⟩ => ⟨a, b.symm⟩))
      | (go_at_call 23; exact Calls.quiet_of_same ((rcount_any _ _ (by omega)).mono fun _ _ ⟨a, b⟩ => ⟨a, b.symm⟩))
      | (go_at_call 24; exact Calls.quiet_of_same ((word_any _ _ _ (by unfold maxLen; omega)).mono fun _ _ ⟨a, b⟩ => ⟨a, b.symm⟩))
      | (go_at_call 25; exact Calls.quiet_of_same ((rword_any _ _ _ (by omega)).mono fun _ _ ⟨a, b⟩ => ⟨a, b.symm⟩))))
    go_wp2
    go_ret
    refine ⟨rfl, ?_⟩
    rw [HB.out]
    exact (HB.out ▸ S7.below).trans (below_drewN _ _ _)

end Go.Proofs.Ytbohkamhcdnmbaa

/- The document's Field, Fields, of schemas. -/
import Derived.Test.YtbhnbjaafejcjaaDoorSchGet
set_option linter.unusedVariables false
namespace Go.Proofs.YtbhnbjaafejcjaaDoor
open Go.RowKit

set_option maxHeartbeats 2000000 in
theorem rfields_any (s : Schema) (v : Value) (t : Int) (w : World) (hs : Sch w v s) :
    Calls Tryd.prog 52 #[v, .int .i64 t] w fun r w' => r = .returned (.int .i64 (typeL s t).length) ∧ w' = w := by
  obtain ⟨a, cap, rfl, hnc, hcm, hmost⟩ := hs.shape
  obtain ⟨n, hn⟩ : ∃ n, n = s.length := ⟨_, rfl⟩
  rw [← hn] at hs hnc hmost ⊢
  by_cases h0 : 0 ≤ t
  · by_cases h1 : t < n
    · obtain ⟨k, rfl⟩ : ∃ k : Nat, t = k := ⟨t.toNat, by omega⟩
      obtain ⟨l, hl⟩ := get_lt (l := s) (i := k) (by rw [← hn]; omega)
      obtain ⟨b, off, a2, cap2, rfl, hbb, hc, hf, hlm, hlc, hcm2⟩ := hs.at_ hl
      rw [typeL_at hl]
      have hk : k < n := by omega
      generalize l.length = m at *
      clear hs hn hl hf h0 h1
      have hd0 : decide ((k : Int) < 0) = false := decide_eq_false (by omega)
      have hd1 : decide (n ≤ k) = false := decide_eq_false (by omega)
      go_enter Tryd.func52, Tryd.ntmps52
      go_wp2
      go_ret
      exact ⟨rfl, rfl⟩
    · have hv := typeL_out (s := s) (t := t) (fun h => h1 (by omega))
      rw [hv]
      have hd0 : decide (t < 0) = false := decide_eq_false (by omega)
      have hd1 : decide ((n : Int) ≤ t) = true := decide_eq_true (by omega)
      clear hs hn h0 h1 hv
      go_enter Tryd.func52, Tryd.ntmps52
      go_wp2
      go_ret
      exact ⟨rfl, rfl⟩
  · have hv := typeL_out (s := s) (t := t) (fun h => h0 h.1)
    rw [hv]
    have hd0 : decide (t < 0) = true := decide_eq_true (by omega)
    clear hs hn h0 hv
    go_enter Tryd.func52, Tryd.ntmps52
    go_wp2
    go_ret
    exact ⟨rfl, rfl⟩

set_option maxHeartbeats 4000000 in
theorem rfield_any (s : Schema) (v : Value) (t i : Int) (w : World) (hs : Sch w v s) :
    Calls Tryd.prog 50 #[v, .int .i64 t, .int .i64 i] w fun r w' => r = .returned (.agg #[.int .i64 (fieldP s t i).1, .int .i64 (fieldP s t i).2]) ∧ Below w.heap.size w w' := by
  obtain ⟨a, cap, rfl, hnc, hcm, hmost⟩ := hs.shape
  obtain ⟨n, hn⟩ : ∃ n, n = s.length := ⟨_, rfl⟩
  rw [← hn] at hs hnc hmost ⊢
  have hb1 := below_alloc w (.cells #[.int .i64 0, .int .i64 0] 30)
  have hs1 := hs.below hb1 (Nat.le_refl _)
  by_cases h0 : 0 ≤ t
  · by_cases h1 : t < n
    · obtain ⟨k, rfl⟩ : ∃ k : Nat, t = k := ⟨t.toNat, by omega⟩
      obtain ⟨l, hl⟩ := get_lt (l := s) (i := k) (by rw [← hn]; omega)
      obtain ⟨b, off, a2, cap2, rfl, hbb, hc, hf, hlm, hlc, hcm2⟩ := hs1.at_ hl
      have hty := typeL_at hl
      have hk : k < n := by omega
      obtain ⟨m, hm⟩ : ∃ m, m = l.length := ⟨_, rfl⟩
      rw [← hm] at hc hf hlm hlc
      have hd0 : decide ((k : Int) < 0) = false := decide_eq_false (by omega)
      have hd1 : decide (n ≤ k) = false := decide_eq_false (by omega)
      by_cases g0 : 0 ≤ i
      · by_cases g1 : i < m
        · obtain ⟨j, rfl⟩ : ∃ j : Nat, i = j := ⟨i.toNat, by omega⟩
          obtain ⟨p, hp⟩ := get_lt (l := l) (i := j) (by rw [← hm]; omega)
          obtain ⟨b2, off2, rfl, hbb2, q1, q2⟩ := hf.at_ hp
          have hfp : fieldP s k j = p := fieldP_at (by rw [hty]; exact hp)
          rw [hfp]
          obtain ⟨pk, pt⟩ := p
          simp only at q1 q2 ⊢
          have hj : j < m := by omega
          have e0 : decide ((j : Int) < 0) = false := decide_eq_false (by omega)
          have e1 : decide (m ≤ j) = false := decide_eq_false (by omega)
          clear hs hn hl hf h0 h1 hs1 hm hp hty hfp g0 g1
          go_enter Tryd.func50, Tryd.ntmps50
          go_wp2
          go_returns
          exact ⟨rfl, by go_grown⟩
        · have hfp : fieldP s k i = (0, 0) := fieldP_out (fun h => g1 (by rw [hty, ← hm] at h; exact h.2))
          rw [hfp]
          have e0 : decide (i < 0) = false := decide_eq_false (by omega)
          have e1 : decide ((m : Int) ≤ i) = true := decide_eq_true (by omega)
          clear hs hn hl hf h0 h1 hs1 hm hty hfp g0 g1
          go_enter Tryd.func50, Tryd.ntmps50
          go_wp2
          go_returns
          exact ⟨rfl, by go_grown⟩
      · have hfp : fieldP s k i = (0, 0) := fieldP_out (fun h => g0 h.1)
        rw [hfp]
        have e0 : decide (i < 0) = true := decide_eq_true (by omega)
        clear hs hn hl hf h0 h1 hs1 hm hty hfp g0
        go_enter Tryd.func50, Tryd.ntmps50
        go_wp2
        go_returns
        exact ⟨rfl, by go_grown⟩
    · have hfp : fieldP s t i = (0, 0) := fieldP_out (fun h => by rw [typeL_out (fun h => h1 (by omega))] at h; simp at h; omega)
      rw [hfp]
      have hd0 : decide (t < 0) = false := decide_eq_false (by omega)
      have hd1 : decide ((n : Int) ≤ t) = true := decide_eq_true (by omega)
      clear hs hn h0 h1 hfp hs1
      go_enter Tryd.func50, Tryd.ntmps50
      go_wp2
      go_returns
      exact ⟨rfl, by go_grown⟩
  · have hfp : fieldP s t i = (0, 0) := fieldP_out (fun h => by rw [typeL_out (fun h => h0 h.1)] at h; simp at h; omega)
    rw [hfp]
    have hd0 : decide (t < 0) = true := decide_eq_true (by omega)
    clear hs hn h0 hfp hs1
    go_enter Tryd.func50, Tryd.ntmps50
    go_wp2
    go_returns
    exact ⟨rfl, by go_grown⟩
end Go.Proofs.YtbhnbjaafejcjaaDoor


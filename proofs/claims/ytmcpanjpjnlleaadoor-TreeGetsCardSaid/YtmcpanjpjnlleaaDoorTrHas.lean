/- tree.has; the document's only. -/
import Derived.Test.YtmcpanjpjnlleaaDoorTrDeep2
import Derived.Deep.QuietTactic
import Derived.BigQuiet
set_option linter.unusedVariables false
namespace Go.Proofs.YtmcpanjpjnlleaaDoor
open Go.RowKit

theorem fin_drawn {w : World} (o : Obj) (n : Nat) : Below w.heap.size w ((w.alloc o).drewN n) := (below_alloc w o).trans (below_drewN _ _ _)

set_option maxHeartbeats 4000000 in
theorem has_any (kind : Int) (x : BitVec 64) (s : ByteArray) (a2 a3 : Option Addr) (nn nk p2 p3 : Nat) (w : World) (hb : s.size ≤ 1000) (hn : nn ≤ 1000) (hk : nk ≤ 1000) :
    Calls Tryd.prog 60 #[.int .i64 kind, .agg #[U x, .string s, .slice a2 nn p2, .slice a3 nk p3]] w fun r w' => r = .returned (.bool (hasV kind x s.size nn nk)) ∧ Below w.heap.size w w' := by
  by_cases hkd : 1 ≤ kind ∧ kind ≤ 5
  · have h5 : kind = 1 ∨ kind = 2 ∨ kind = 3 ∨ kind = 4 ∨ kind = 5 := by omega
    clear hkd
    rcases h5 with rfl | rfl | rfl | rfl | rfl
    · have Hr := hid (show ((((s.size : Int) + nn) + nk == 0) = hasV 1 x s.size nn nk) by
        rw [hasV, if_pos rfl, Bool.eq_iff_iff, beq_iff_eq, decide_eq_true_eq]; omega)
      go_enter Tryd.func60, Tryd.ntmps60
      go_wp2_with fail
      go_quiet (fail)
      go_wp2_with fail
      go_ret
      exact ⟨by rw [← Hr.out]; rfl, fin_drawn _ _⟩
    · by_cases hx : x = 0#64
      · have h1 : (x == 0#64) = true := by simpa using hx
        by_cases hs : nn = 0 ∧ nk = 0
        · have h2 : ((nn : Int) + nk == 0) = true := by rw [beq_iff_eq]; omega
          have Hr := hid (show decide ((s.size : Int) ≤ 40) = hasV 2 x s.size nn nk by
            simp only [hasV]
            rw [Bool.eq_iff_iff]; simp [hx, hs]; try omega)
          clear hx hs
          go_enter Tryd.func60, Tryd.ntmps60
          go_wp2_with fail
          go_quiet (fail)
          go_wp2_with fail
          go_ret
          first | exact ⟨by rw [Hr.out]; rfl, fin_drawn _ _⟩ | exact ⟨by rw [← Hr.out]; rfl, fin_drawn _ _⟩ | exact ⟨by rw [← Hr.out]; simp <;> omega, fin_drawn _ _⟩
        · have h2 : ((nn : Int) + nk == 0) = false := by rw [beq_eq_false_iff_ne]; omega
          have Hr := hid (show hasV 2 x s.size nn nk = false by
            generalize s.size = nb at *
            simp [hasV, hx]; omega)
          clear hx hs
          go_enter Tryd.func60, Tryd.ntmps60
          go_wp2_with fail
          go_quiet (fail)
          go_wp2_with fail
          go_ret
          first | exact ⟨by rw [Hr.out]; rfl, fin_drawn _ _⟩ | exact ⟨by rw [← Hr.out]; rfl, fin_drawn _ _⟩ | exact ⟨by rw [← Hr.out]; simp <;> omega, fin_drawn _ _⟩
      · have h1 : (x == 0#64) = false := by simpa using hx
        have Hr := hid (show hasV 2 x s.size nn nk = false by simp [hasV, hx])
        clear hx
        go_enter Tryd.func60, Tryd.ntmps60
        go_wp2_with fail
        go_quiet (fail)
        go_wp2_with fail
        go_ret
        first | exact ⟨by rw [Hr.out]; rfl, fin_drawn _ _⟩ | exact ⟨by rw [← Hr.out]; rfl, fin_drawn _ _⟩ | exact ⟨by rw [← Hr.out]; simp <;> omega, fin_drawn _ _⟩
    · by_cases hx : x = 0#64
      · have h1 : (x == 0#64) = true := by simpa using hx
        by_cases hs : s.size = 0 ∧ nk = 0
        · have h2 : ((s.size : Int) + nk == 0) = true := by rw [beq_iff_eq]; omega
          have Hr := hid (show decide ((nn : Int) ≤ 12) = hasV 3 x s.size nn nk by
            simp only [hasV]
            rw [Bool.eq_iff_iff]; simp [hx, hs]; try omega)
          clear hx hs
          go_enter Tryd.func60, Tryd.ntmps60
          go_wp2_with fail
          go_quiet (fail)
          go_wp2_with fail
          go_ret
          first | exact ⟨by rw [Hr.out]; rfl, fin_drawn _ _⟩ | exact ⟨by rw [← Hr.out]; rfl, fin_drawn _ _⟩ | exact ⟨by rw [← Hr.out]; simp <;> omega, fin_drawn _ _⟩
        · have h2 : ((s.size : Int) + nk == 0) = false := by rw [beq_eq_false_iff_ne]; omega
          have Hr := hid (show hasV 3 x s.size nn nk = false by
            generalize s.size = nb at *
            simp [hasV, hx]; omega)
          clear hx hs
          go_enter Tryd.func60, Tryd.ntmps60
          go_wp2_with fail
          go_quiet (fail)
          go_wp2_with fail
          go_ret
          first | exact ⟨by rw [Hr.out]; rfl, fin_drawn _ _⟩ | exact ⟨by rw [← Hr.out]; rfl, fin_drawn _ _⟩ | exact ⟨by rw [← Hr.out]; simp <;> omega, fin_drawn _ _⟩
      · have h1 : (x == 0#64) = false := by simpa using hx
        have Hr := hid (show hasV 3 x s.size nn nk = false by simp [hasV, hx])
        clear hx
        go_enter Tryd.func60, Tryd.ntmps60
        go_wp2_with fail
        go_quiet (fail)
        go_wp2_with fail
        go_ret
        first | exact ⟨by rw [Hr.out]; rfl, fin_drawn _ _⟩ | exact ⟨by rw [← Hr.out]; rfl, fin_drawn _ _⟩ | exact ⟨by rw [← Hr.out]; simp <;> omega, fin_drawn _ _⟩
    · by_cases hk1 : 1 < nk
      · have Hr := hid (show hasV 4 x s.size nn nk = false by simp [hasV]; omega)
        go_enter Tryd.func60, Tryd.ntmps60
        go_wp2_with fail
        go_quiet (fail)
        go_wp2_with fail
        go_ret
        first | exact ⟨by rw [Hr.out]; rfl, fin_drawn _ _⟩ | exact ⟨by rw [← Hr.out]; rfl, fin_drawn _ _⟩ | exact ⟨by rw [← Hr.out]; simp <;> omega, fin_drawn _ _⟩
      · have hk12 : nk ≤ 12 := by omega
        by_cases hx : x = 0#64
        · have h1 : (x == 0#64) = true := by simpa using hx
          by_cases hs : s.size = 0 ∧ nn = 0
          · have h2 : ((s.size : Int) + nn == 0) = true := by rw [beq_iff_eq]; omega
            have Hr := hid (show decide ((nk : Int) ≤ 12) = hasV 4 x s.size nn nk by
              simp only [hasV]
              rw [Bool.eq_iff_iff]; simp [hx, hs]; try omega)
            clear hx hs
            go_enter Tryd.func60, Tryd.ntmps60
            go_wp2_with fail
            go_quiet (fail)
            go_wp2_with fail
            go_ret
            first | exact ⟨by rw [Hr.out]; rfl, fin_drawn _ _⟩ | exact ⟨by rw [← Hr.out]; rfl, fin_drawn _ _⟩ | exact ⟨by rw [← Hr.out]; simp <;> omega, fin_drawn _ _⟩
          · have h2 : ((s.size : Int) + nn == 0) = false := by rw [beq_eq_false_iff_ne]; omega
            have Hr := hid (show hasV 4 x s.size nn nk = false by
              generalize s.size = nb at *
              simp [hasV, hx]; omega)
            clear hx hs
            go_enter Tryd.func60, Tryd.ntmps60
            go_wp2_with fail
            go_quiet (fail)
            go_wp2_with fail
            go_ret
            first | exact ⟨by rw [Hr.out]; rfl, fin_drawn _ _⟩ | exact ⟨by rw [← Hr.out]; rfl, fin_drawn _ _⟩ | exact ⟨by rw [← Hr.out]; simp <;> omega, fin_drawn _ _⟩
        · have h1 : (x == 0#64) = false := by simpa using hx
          have Hr := hid (show hasV 4 x s.size nn nk = false by simp [hasV, hx])
          clear hx
          go_enter Tryd.func60, Tryd.ntmps60
          go_wp2_with fail
          go_quiet (fail)
          go_wp2_with fail
          go_ret
          first | exact ⟨by rw [Hr.out]; rfl, fin_drawn _ _⟩ | exact ⟨by rw [← Hr.out]; rfl, fin_drawn _ _⟩ | exact ⟨by rw [← Hr.out]; simp <;> omega, fin_drawn _ _⟩
    · by_cases hx : x = 0#64
      · have h1 : (x == 0#64) = true := by simpa using hx
        by_cases hs : s.size = 0 ∧ nn = 0
        · have h2 : ((s.size : Int) + nn == 0) = true := by rw [beq_iff_eq]; omega
          have Hr := hid (show decide ((nk : Int) ≤ 12) = hasV 5 x s.size nn nk by
            simp only [hasV]
            rw [Bool.eq_iff_iff]; simp [hx, hs]; try omega)
          clear hx hs
          go_enter Tryd.func60, Tryd.ntmps60
          go_wp2_with fail
          go_quiet (fail)
          go_wp2_with fail
          go_ret
          first | exact ⟨by rw [Hr.out]; rfl, fin_drawn _ _⟩ | exact ⟨by rw [← Hr.out]; rfl, fin_drawn _ _⟩ | exact ⟨by rw [← Hr.out]; simp <;> omega, fin_drawn _ _⟩
        · have h2 : ((s.size : Int) + nn == 0) = false := by rw [beq_eq_false_iff_ne]; omega
          have Hr := hid (show hasV 5 x s.size nn nk = false by
            generalize s.size = nb at *
            simp [hasV, hx]; omega)
          clear hx hs
          go_enter Tryd.func60, Tryd.ntmps60
          go_wp2_with fail
          go_quiet (fail)
          go_wp2_with fail
          go_ret
          first | exact ⟨by rw [Hr.out]; rfl, fin_drawn _ _⟩ | exact ⟨by rw [← Hr.out]; rfl, fin_drawn _ _⟩ | exact ⟨by rw [← Hr.out]; simp <;> omega, fin_drawn _ _⟩
      · have h1 : (x == 0#64) = false := by simpa using hx
        have Hr := hid (show hasV 5 x s.size nn nk = false by simp [hasV, hx])
        clear hx
        go_enter Tryd.func60, Tryd.ntmps60
        go_wp2_with fail
        go_quiet (fail)
        go_wp2_with fail
        go_ret
        first | exact ⟨by rw [Hr.out]; rfl, fin_drawn _ _⟩ | exact ⟨by rw [← Hr.out]; rfl, fin_drawn _ _⟩ | exact ⟨by rw [← Hr.out]; simp <;> omega, fin_drawn _ _⟩
  · have Hr := hid (show hasV kind x s.size nn nk = false by
      rw [hasV, if_neg (by omega), if_neg (by omega), if_neg (by omega), if_neg (by omega), if_neg (by omega)])
    have h1 : (kind == 1) = false := by simp; omega
    have h2 : (kind == 2) = false := by simp; omega
    have h3 : (kind == 3) = false := by simp; omega
    have h4 : (kind == 4) = false := by simp; omega
    have h5 : (kind == 5) = false := by simp; omega
    clear hkd
    go_enter Tryd.func60, Tryd.ntmps60
    go_wp2_with fail
    go_quiet (fail)
    go_wp2_with fail
    go_ret
    first | exact ⟨by rw [Hr.out]; rfl, fin_drawn _ _⟩ | exact ⟨by rw [← Hr.out]; rfl, fin_drawn _ _⟩ | exact ⟨by rw [← Hr.out]; simp <;> omega, fin_drawn _ _⟩
end Go.Proofs.YtmcpanjpjnlleaaDoor


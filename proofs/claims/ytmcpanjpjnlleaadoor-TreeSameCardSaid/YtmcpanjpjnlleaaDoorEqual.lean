/- slices.Equal, of rows of words. -/
import Derived.Test.YtmcpanjpjnlleaaDoorProg
import Derived.Test.YtmcpanjpjnlleaaDoorBase
import Derived.Deep.QuietTactic
import Derived.BigQuiet
set_option linter.unusedVariables false
namespace Go.Proofs.YtmcpanjpjnlleaaDoor
open Go.RowKit

set_option maxHeartbeats 400000 in
theorem equal_any (xs ys : List (BitVec 64)) (u v : Value) (n m : Nat) (w : World) (hx : Row w 1 u n (xs.map U)) (hy : Row w 1 v m (ys.map U)) :
    Calls Tryd.prog 32 #[u, v] w fun e w' => e = .returned (.bool (xs == ys)) ∧ ∃ k, w' = w.drewN k := by
  have hxl : xs.length = n := by have := hx.len; simpa using this
  have hyl : ys.length = m := by have := hy.len; simpa using this
  obtain ⟨a, cap, rfl, hnc, hcm, hcell⟩ := hx.open
  obtain ⟨a2, cap2, rfl, hnc2, hcm2, hcell2⟩ := hy.open
  have hxm := hx.most
  have hym := hy.most
  unfold maxLen at hxm hym
  clear hx hy hnc hcm hnc2 hcm2
  by_cases hl : n = m
  · subst hl
    have Hxl := hid hxl
    have Hyl := hid hyl
    clear hxl hyl
    go_enter Tryd.func32, Tryd.ntmps32
    go_wp2_with fail
    go_loopw [13] (fun i wr => (∃ q, wr = w.drewN q) ∧ ∃ k : Nat, k ≤ n ∧ i = .int .i64 k ∧ xs.take k = ys.take k) (fun i _ => n - (intOf i).toNat)
    case atStart => exact ⟨⟨0, rfl⟩, 0, by omega, rfl, rfl⟩
    case round =>
      obtain ⟨⟨q, rfl⟩, k, hk, rfl, hkk⟩ := hrel
      have Hkk := hid hkk
      clear hkk
      by_cases hlt : k < n
      · obtain ⟨b, off, rfl, hbb, hc1⟩ := hcell (by omega)
        obtain ⟨b2, off2, rfl, hbb2, hc2⟩ := hcell2 (by omega)
        have hxk : xs[k]? = some (xs.getD k 0#64) := by
          rw [List.getD_eq_getElem?_getD, List.getElem?_eq_getElem (by rw [Hxl.out]; exact hlt)]; rfl
        have hyk : ys[k]? = some (ys.getD k 0#64) := by
          rw [List.getD_eq_getElem?_getD, List.getElem?_eq_getElem (by rw [Hyl.out]; exact hlt)]; rfl
        generalize xs.getD k 0#64 = x at *
        generalize ys.getD k 0#64 = y at *
        have c1 : w.cell? ⟨b, off + k, none⟩ = some (U x) := by rw [hc1 k (by omega), List.getElem?_map, hxk]; rfl
        have c2 : w.cell? ⟨b2, off2 + k, none⟩ = some (U y) := by rw [hc2 k (by omega), List.getElem?_map, hyk]; rfl
        have Hxk := hid hxk
        have Hyk := hid hyk
        clear hc1 hc2 hcell hcell2 hxk hyk
        by_cases hxy : x = y
        · subst hxy
          go_wp2_with fail
          go_quiet (fail)
          go_wp2
          go_roundw
          case rel => exact ⟨⟨_, rfl⟩, k + 1, by omega, by go_num, by rw [List.take_add_one, List.take_add_one, Hkk.out, Hxk.out, Hyk.out]⟩
          case measure => simp [intOf] <;> omega
        · have hne : (x != y) = true := by simpa using hxy
          have hno : Hid ((xs == ys) = false) := by
            show _ = _
            rw [beq_eq_false_iff_ne]
            intro h
            have h1 := Hxk.out
            rw [h, Hyk.out] at h1
            exact hxy (Option.some.inj h1).symm
          clear hxy
          go_wp2_with fail
          go_quiet (fail)
          go_wp2
          go_ret
          exact ⟨by rw [hno.out]; rfl, _, World.drewN_drewN _ _ _⟩
      · obtain rfl : k = n := by omega
        have hyes : Hid ((xs == ys) = true) := by
          show _ = _
          rw [beq_iff_eq]
          have := Hkk.out
          rwa [List.take_of_length_le (by rw [Hxl.out]; exact Nat.le_refl _), List.take_of_length_le (by rw [Hyl.out]; exact Nat.le_refl _)] at this
        clear hcell hcell2
        go_wp2
        go_ret
        exact ⟨by rw [hyes.out]; rfl, _, rfl⟩
  · have hne : ((n : Int) != (m : Int)) = true := by rw [bne_iff_ne]; omega
    have hno : Hid ((xs == ys) = false) := by
      show _ = _
      rw [beq_eq_false_iff_ne]
      intro h; subst h; omega
    clear hl hcell hcell2
    go_enter Tryd.func32, Tryd.ntmps32
    go_wp2
    go_ret
    exact ⟨by rw [hno.out]; rfl, 0, rfl⟩

end Go.Proofs.YtmcpanjpjnlleaaDoor


import Derived.Test.YtbohkamhcdnmbaaB10
set_option linter.unusedVariables false
namespace Go.Proofs.Ytbohkamhcdnmbaa
open Go.RowKit

set_option maxHeartbeats 800000 in
theorem rtext_loop (ws : List (BitVec 64)) (v : Value) (m : Nat) (w : World) (hr : Row w 1 v ws.length (ws.map U)) (hn : m ≤ 9223372036854775807) (hc : (ws.length : Int) = countV m) (hl : ws.length ≤ 1099511627776) :
    Calls Try.prog 18 #[v, .int .i64 m] w fun e w' => e = .returned (.tuple #[.string ⟨(textV ws m).toArray⟩, .bool (textOk ws m)]) ∧ Below w.heap.size w w' := by
  obtain ⟨a, cap, rfl, hnc, hcm, hcell⟩ := hr.open
  obtain ⟨i0, hi, hz0, hz1, hz2⟩ := info_parts info5
  have Hc := hid hc
  have hcb : ((ws.length : Int) != countV m) = false := by simpa using hc
  have hm8 : m ≤ 8 * ws.length := by unfold countV at hc; split at hc <;> omega
  clear hc hnc hcm hr
  generalize hB : w.heap.size = B at *
  have hown0 : w.ownsRow B 5 1 (.slice none 0 0) 0 (byteCells ws 0) := World.ownsRow_nil _ _ _ _
  go_enter Try.func18, Try.ntmps18
  go_wp2_with fail
  ((with_reducible refine (rcount_any _ _ (by omega)).mono ?_); rintro e w' ⟨rfl, rfl⟩)
  go_wp2_with fail
  go_loopw [6, 7] (fun t i wr => ∃ k : Nat, k ≤ 8 * ws.length ∧ i = .int .i64 k ∧ wr.ownsRow B 5 1 t (min k m) (byteCells ws (min k m)) ∧ Below B w wr ∧ ∀ u, m ≤ u → u < k → byteAt ws u = 0) (fun _ i _ => 8 * ws.length - (intOf i).toNat)
  case atStart => exact ⟨0, by omega, rfl, by simpa using hown0, Below.refl _ _, fun u h1 h2 => by omega⟩
  case round =>
    clear hown0
    obtain ⟨k, hk, rfl, hown, hb, hz⟩ := hrel
    have Hz := hid hz
    clear hz
    by_cases hlt : k < 8 * ws.length
    · obtain ⟨b, off, rfl, hbb, hcell⟩ := hcell (by omega)
      have hck : wr.cell? ⟨b, off + k / 8, none⟩ = some (U (ws.getD (k / 8) 0#64)) := by
        rw [hb.cell (p := ⟨b, off + k / 8, none⟩) (by omega), hcell (k / 8) (by omega)]
        have : k / 8 < ws.length := by omega
        simp [List.getD, this]
      clear hcell
      have hby : by8 (ws.getD (k / 8) 0#64 >>> (8 * (k % 8))) = byteAt ws k := rfl
      generalize ws.getD (k / 8) 0#64 = x at *
      have hkm : k % 8 * 8 % 18446744073709551616 = 8 * (k % 8) := by omega
      by_cases hkn : k < m
      · have hmin : min k m = k := by omega
        rw [hmin] at hown
        clear hmin
        go_wp2_with (at_builtin; refine wpList_append_own _ rfl (.tmp 39) (.tmp 41) 49 rfl B 5 i0 (.int .u8 0) 1 1 Try.underlying49 hi hz0 hz1 hz2 rfl (by decide) _ _ _ rfl (hown.alloc _) ⟨wr.heap.size, 0, none⟩ 1 1 [Y (byteAt ws k)] rfl rfl (cell_one_new _ _ _) (by intro u hu; simp at hu; subst hu; rfl) (by unfold maxLen; omega) (by omega) (by have := hb.size; simp; omega) ?_)
        intro v' w2 hown2 hg _
        have hb2 : Below B w w2 := own_below hb (by have := hb.size; omega) hown hg
        rw [byteCells_succ] at hown2
        have hown3 : w2.ownsRow B 5 1 v' (min (k + 1) m) (byteCells ws (min (k + 1) m)) := by rw [show min (k + 1) m = k + 1 by omega]; exact hown2
        clear hown hb hg hown2 hby hck hkm
        go_wp2
        go_roundw
        case rel => exact ⟨k + 1, by omega, by go_num, hown3, hb2, fun u h1 h2 => by omega⟩
        case measure => simp [intOf] <;> omega
      · have hown3 : wr.ownsRow B 5 1 u6 (min (k + 1) m) (byteCells ws (min (k + 1) m)) := by rw [show min (k + 1) m = min k m by omega]; exact hown
        have Hown := hid hown3
        clear hown hown3
        by_cases hzz : byteAt ws k = 0
        · have hb0 : (((byteAt ws k).toNat : Int) != 0) = false := by rw [hzz]; rfl
          have Hzz := hid hzz
          clear hzz
          go_wp2
          go_roundw
          case rel => exact ⟨k + 1, by omega, by go_num, Hown.out, hb, fun u h1 h2 => by
            by_cases e : u = k
            · rw [e]; exact Hzz.out
            · exact Hz.out u h1 (by omega)⟩
          case measure => simp [intOf] <;> omega
        · have hb0 : (((byteAt ws k).toNat : Int) != 0) = true := by
            rw [bne_iff_ne]; intro h; apply hzz; rw [← UInt8.toNat_inj]; simpa using h
          obtain ⟨e1, e2⟩ := textOk_not ws m k (by omega) (by omega) hzz
          have E1 := hid e1
          have E2 := hid e2
          clear hzz e1 e2
          go_wp2
          go_ret2
          exact ⟨ret_text E2.out.symm E1.out.symm, hB ▸ hb⟩
    · obtain rfl : k = 8 * ws.length := by omega
      obtain ⟨e1, e2⟩ := textOk_of ws m Hc.out (fun u h1 h2 => Hz.out u h1 (by omega))
      have E1 := hid e1
      have E2 := hid e2
      rw [show min (8 * ws.length) m = m by omega] at hown
      have hown2 := hown.2
      clear hcell e1 e2
      rcases hown2 with ⟨rfl, h0⟩ | ⟨g, cap', cur, rfl, _⟩
      · have hconv := run_convert_bytes_nil (P := Try.prog) (w := wr) 49 5 Try.underlying49 Try.underlying5 0 0 9 Try.underlying9
        have h0' : m ≤ 0 := by omega
        clear hown h0
        go_wp2
        go_ret2
        exact ⟨ret_text (by rw [E2.out, show m = 0 by omega]; rfl) E1.out.symm, hB ▸ hb⟩
      · have hconv := run_back (P := Try.prog) (w := wr) 49 9 5 g cap' ws m Try.underlying49 Try.underlying5 Try.underlying9 hm8 (fun j hj => by
          rw [hown.cellAt j (by omega)]; simp [byteCells, hj])
        clear hown
        go_wp2
        go_ret2
        exact ⟨ret_text E2.out.symm E1.out.symm, hB ▸ hb⟩

set_option maxHeartbeats 400000 in
theorem rtext_any (ws : List (BitVec 64)) (v : Value) (n : Int) (w : World) (hr : Row w 1 v ws.length (ws.map U)) (hn : -9223372036854775808 ≤ n ∧ n ≤ 9223372036854775807) (hl : ws.length ≤ 1099511627776) :
    Calls Try.prog 18 #[v, .int .i64 n] w fun e w' => e = .returned (.tuple #[.string ⟨(textV ws n).toArray⟩, .bool (textOk ws n)]) ∧ Below w.heap.size w w' := by
  by_cases h0 : 0 ≤ n
  · by_cases hc : (ws.length : Int) = countV n
    · obtain ⟨m, rfl⟩ := Int.eq_ofNat_of_zero_le h0
      exact rtext_loop ws v m w hr (by omega) hc hl
    · have e1 : textOk ws n = false := by simp [textOk, hc]
      have E2 : Hid (textV ws n = []) := by show _ = _; simp [textV, e1]
      have E1 := hid e1
      clear e1
      obtain ⟨a, cap, rfl, hnc, hcm, hcell⟩ := hr.open
      have hcb : ((ws.length : Int) != countV n) = true := by simpa using hc
      clear hcell hc
      go_enter Try.func18, Try.ntmps18
      go_wp2_with fail
      ((with_reducible refine (rcount_any _ _ (by omega)).mono ?_); rintro e w' ⟨rfl, rfl⟩)
      go_wp2
      go_ret2
      exact ⟨ret_text E2.out.symm E1.out.symm, Below.refl _ _⟩
  · have e1 : textOk ws n = false := by simp [textOk, h0]
    have E2 : Hid (textV ws n = []) := by show _ = _; simp [textV, e1]
    have E1 := hid e1
    clear e1
    obtain ⟨a, cap, rfl, hnc, hcm, hcell⟩ := hr.open
    clear hcell
    go_enter Try.func18, Try.ntmps18
    go_wp2
    go_ret2
    exact ⟨ret_text E2.out.symm E1.out.symm, Below.refl _ _⟩

def shortV (s : ByteArray) : ByteArray := if 60 < s.size then s.extract 0 60 else s
theorem shortV_size (s : ByteArray) : (shortV s).size ≤ 60 := by
  unfold shortV
  by_cases h : 60 < s.size
  · rw [if_pos h]; simp; omega
  · rw [if_neg h]; omega

set_option maxHeartbeats 400000 in
theorem short_any (s : ByteArray) (w : World) (hs : s.size ≤ maxLen) :
    Calls Try.prog 16 #[.string s] w fun e w' => e = .returned (.string (shortV s)) ∧ w = w' := by
  unfold maxLen at hs
  by_cases h : 60 < s.size
  · have Hv : Hid (shortV s = s.extract 0 60) := by show _ = _; unfold shortV; rw [if_pos h]
    go_enter Try.func16, Try.ntmps16
    go_wp2
    go_ret
    exact ⟨by rw [Hv.out]; rfl, rfl⟩
  · have Hv : Hid (shortV s = s) := by show _ = _; unfold shortV; rw [if_neg h]
    go_enter Try.func16, Try.ntmps16
    go_wp2
    go_ret
    exact ⟨by rw [Hv.out]; rfl, rfl⟩
end Go.Proofs.Ytbohkamhcdnmbaa

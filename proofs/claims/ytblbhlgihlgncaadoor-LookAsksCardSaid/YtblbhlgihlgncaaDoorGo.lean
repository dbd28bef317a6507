/- The contract of bits.Text. -/
import Derived.Test.YtblbhlgihlgncaaDoorGg
import Derived.Deep.QuietTactic
import Derived.BigQuiet
set_option linter.unusedVariables false
set_option linter.unusedSimpArgs false
namespace Go.Proofs.YtblbhlgihlgncaaDoor
section SBitsText
open Go.RowKit

theorem infoU8 : (Tryd.prog.info? 5).map (fun i => (i.zero, i.size, i.bytes)) = some (some (.int .u8 0), 1, 1) := by kernel_rfl

set_option maxRecDepth 100000 in
set_option maxHeartbeats 800000 in
theorem text_loop (ws : List (BitVec 64)) (v : Value) (n : Int) (w : World) (hr : Row w 1 v ws.length (ws.map U)) (h0 : 0 ≤ n) (hn : n ≤ 9223372036854775807) (hc : (ws.length : Int) = countV n) (hl : ws.length ≤ 17592186044416) :
    Calls Tryd.prog 78 #[v, .int .i64 n] w fun e w' => e = .returned (.tuple #[.string ⟨(textV ws n).toArray⟩, .bool (textOk ws n)]) ∧ Below w.heap.size w w' := by
  obtain ⟨a, cap, rfl, hnc, hcm, hcell⟩ := hr.open
  obtain ⟨i0, hi, hz0, hz1, hz2⟩ := info_parts infoU8
  have Hc := hid hc
  have hc' : ¬ ((ws.length : Int) ≠ countV n) := by simpa using hc
  have hcb : ((ws.length : Int) != countV n) = false := by simpa using hc
  have hbd : i0.bytes * (8 * ws.length) ≤ 281474976710656 := by rw [hz2]; omega
  have hmx : 8 * ws.length ≤ maxLen := by unfold maxLen; omega
  clear hc hc' hnc hcm
  generalize hB : w.heap.size = B at *
  go_enter Tryd.func78, Tryd.ntmps78
  go_wp2_with fail
  ((with_reducible refine (count_any _ _ (by omega)).mono ?_); rintro e w' ⟨rfl, rfl⟩)
  go_wp2_with (at_make; refine wpList_make_own _ rfl _ _ 144 rfl w.heap.size 5 i0 (.int .u8 0) 1 Tryd.underlying144 hi hz0 hz1 .i64 .i64 _ (8 * ws.length) rfl rfl (by omega) hbd hmx (Nat.le_refl _) ?_)
  intro w1 hown hg
  have hb : Below B w w1 := (Below.refl _ _).grown hg (by omega) (by intro k h; cases h)
  have hown0 : w1.ownsRow B 5 1 (.slice (some ⟨B, 0, none⟩) (8 * 0) (8 * ws.length)) (8 * 0) (byteCells ws (8 * 0)) := hown
  clear hown hg
  go_wp2_with fail
  go_loopw [6, 26] (fun t i wr => ∃ k : Nat, k ≤ ws.length ∧ i = .int .i64 k ∧ t = .slice (some ⟨B, 0, none⟩) (8 * k) (8 * ws.length) ∧ wr.ownsRow B 5 1 (.slice (some ⟨B, 0, none⟩) (8 * k) (8 * ws.length)) (8 * k) (byteCells ws (8 * k)) ∧ Below B w wr) (fun _ i _ => ws.length - (intOf i).toNat)
  case atStart => exact ⟨0, by omega, rfl, rfl, hown0, hb⟩
  case round =>
    clear hown0 hb
    obtain ⟨k, hk, rfl, rfl, hown, hb⟩ := hrel
    by_cases hlt : k < ws.length
    · obtain ⟨b, off, rfl, hbb, hcell⟩ := hcell (by omega)
      have hck : wr.cell? ⟨b, off + k, none⟩ = some (U (ws.getD k 0#64)) := by
        rw [hb.cell (p := ⟨b, off + k, none⟩) (by omega), hcell k (by omega)]
        simp [List.getD, hlt]
      clear hcell
      generalize hx : ws.getD k 0#64 = x at *
      have Hx := hid hx
      clear hx
      go_wp2_with fail
      obtain ⟨wo, rfl⟩ : ∃ wo : World, wo = wr := ⟨_, rfl⟩
      clear hck
      go_loopw [6, 8, 30] (fun t u i wr => ∃ j : Nat, j ≤ 8 ∧ i = .int .i64 j ∧ u = U (x >>> (8 * j)) ∧ t = .slice (some ⟨B, 0, none⟩) (8 * k + j) (8 * ws.length) ∧ wr.ownsRow B 5 1 (.slice (some ⟨B, 0, none⟩) (8 * k + j) (8 * ws.length)) (8 * k + j) (byteCells ws (8 * k + j)) ∧ Below B w wr) (fun _ _ i _ => 8 - (intOf i).toNat)
      case atStart => exact ⟨0, by omega, rfl, by simp, rfl, hown, hb⟩
      case round =>
        clear hown hb
        obtain ⟨j, hj, rfl, rfl, rfl, hown, hb⟩ := hrel
        by_cases hj8 : j < 8
        · go_wp2_with (at_builtin; refine wpList_append_fits _ rfl (.tmp 32) (.tmp 35) 144 rfl B 5 i0 1 Tryd.underlying144 hi hz1 B (8 * k + j) (8 * ws.length) _ rfl (hown.alloc _) ⟨wr.heap.size, 0, none⟩ 1 1 [Y (by8 (x >>> (8 * j)))] rfl rfl (cell_one_new _ _ _) (by intro u hu; simp at hu; subst hu; rfl) (by omega) ?_)
          intro w2 hown2 hg
          have hb2 : Below B w w2 := (hb.alloc (by have := hb.size; omega) _).grown hg (by have := hb.size; simp; omega) (by intro k h; cases h; exact Nat.le_refl _)
          clear hown hb hg
          have hxb : by8 (x >>> (8 * j)) = byteAt ws (8 * k + j) := by
            unfold byteAt
            rw [show (8 * k + j) / 8 = k by omega, show (8 * k + j) % 8 = j by omega, Hx.out]
          rw [hxb, byteCells_succ] at hown2
          clear hxb
          have hsh := hid (BitVec.shiftRight_add x (8 * j) 8)
          go_wp2
          go_roundw
          case rel => exact ⟨j + 1, by omega, by go_num, by rw [← hsh.out]; rfl, rfl, hown2, hb2⟩
          case measure => simp [intOf] <;> omega
        · obtain rfl : j = 8 := by omega
          have e : 8 * k + 8 = 8 * (k + 1) := by omega
          rw [e] at hown ⊢
          clear e
          go_wp2
          go_roundw
          case rel => exact ⟨k + 1, by omega, by go_num, rfl, hown, hb⟩
          case measure => simp [intOf] <;> omega
    · obtain rfl : k = ws.length := by omega
      clear hcell
      obtain ⟨m, rfl⟩ := Int.eq_ofNat_of_zero_le h0
      have hm8 : m ≤ 8 * ws.length := by have := Hc.out; unfold countV at this; split at this <;> omega
      have hat := byteCells_at hown
      have hbk := run_back (P := Tryd.prog) 144 9 5 B (8 * ws.length) ws m Tryd.underlying144 Tryd.underlying5 Tryd.underlying9 hm8 (fun j hj => hat j (by omega))
      by_cases hme : m < 8 * ws.length
      · go_wp2_with fail
        go_loop [45] (fun i => ∃ t : Nat, t ≤ 8 * ws.length - m ∧ i = .int .i64 t ∧ ∀ u, m ≤ u → u < m + t → byteAt ws u = 0) (fun i => 8 * ws.length - m - (intOf i).toNat)
        case atStart => exact ⟨0, by omega, rfl, fun u h1 h2 => by omega⟩
        case round =>
          obtain ⟨t, ht, rfl, hz⟩ := hrel
          have Hz := hid hz
          clear hz
          by_cases hlt2 : t < 8 * ws.length - m
          · have hct : wr.cell? ⟨B, m + t, none⟩ = some (.int .u8 ((byteAt ws (m + t)).toNat : Int)) := hat (m + t) (by omega)
            clear hat hbk
            by_cases hzz : byteAt ws (m + t) = 0
            · have hb0 : (((byteAt ws (m + t)).toNat : Int) != 0) = false := by rw [hzz]; rfl
              have Hzz := hid hzz
              clear hzz
              go_wp2
              go_round
              case rel => exact ⟨t + 1, by omega, by go_num, fun u h1 h2 => by
                by_cases e : u = m + t
                · rw [e]; exact Hzz.out
                · exact Hz.out u h1 (by omega)⟩
              case measure => simp [intOf] <;> omega
            · have hb0 : (((byteAt ws (m + t)).toNat : Int) != 0) = true := by
                rw [bne_iff_ne]; intro h; apply hzz; rw [← UInt8.toNat_inj]; simpa using h
              obtain ⟨e1, e2⟩ := textOk_not ws m (m + t) (by omega) (by omega) hzz
              have E1 := hid e1
              have E2 := hid e2
              clear hzz e1 e2
              go_wp2
              go_ret2
              exact ⟨by rw [E1.out, E2.out]; rfl, hB ▸ hb⟩
          · obtain rfl : t = 8 * ws.length - m := by omega
            clear hat
            obtain ⟨e1, e2⟩ := textOk_of ws m Hc.out (fun u h1 h2 => Hz.out u h1 (by omega))
            have E1 := hid e1
            have E2 := hid e2
            clear e1 e2
            go_wp2
            go_ret2
            exact ⟨by rw [E1.out, E2.out]; rfl, hB ▸ hb⟩
      · obtain rfl : m = 8 * ws.length := by omega
        obtain ⟨e1, e2⟩ := textOk_of ws _ Hc.out (fun u h1 h2 => by omega)
        have E1 := hid e1
        have E2 := hid e2
        clear hat e1 e2
        go_wp2_with fail
        go_loop [45] (fun i => i = .int .i64 0) (fun i => 0)
        case atStart => rfl
        case round =>
          obtain rfl := hrel
          go_wp2
          go_ret2
          exact ⟨ret_text (by rw [← E2.out]; rfl) (by rw [← E1.out]; rfl), hB ▸ hb⟩

set_option maxRecDepth 100000 in
set_option maxHeartbeats 400000 in
theorem text_any (ws : List (BitVec 64)) (v : Value) (n : Int) (w : World) (hr : Row w 1 v ws.length (ws.map U)) (hn : -9223372036854775808 ≤ n ∧ n ≤ 9223372036854775807) (hl : ws.length ≤ 17592186044416) :
    Calls Tryd.prog 78 #[v, .int .i64 n] w fun e w' => e = .returned (.tuple #[.string ⟨(textV ws n).toArray⟩, .bool (textOk ws n)]) ∧ Below w.heap.size w w' := by
  by_cases h0 : 0 ≤ n
  · by_cases hc : (ws.length : Int) = countV n
    · exact text_loop ws v n w hr h0 hn.2 hc hl
    · have e1 : textOk ws n = false := by simp [textOk, hc]
      have E2 : Hid (textV ws n = []) := by show _ = _; simp [textV, e1]
      have E1 := hid e1
      clear e1
      obtain ⟨a, cap, rfl, hnc, hcm, hcell⟩ := hr.open
      have hcb : ((ws.length : Int) != countV n) = true := by simpa using hc
      clear hcell hc
      go_enter Tryd.func78, Tryd.ntmps78
      go_wp2_with fail
      ((with_reducible refine (count_any _ _ (by omega)).mono ?_); rintro e w' ⟨rfl, rfl⟩)
      go_wp2
      go_ret2
      exact ⟨by rw [E1.out, E2.out]; rfl, Below.refl _ _⟩
  · have e1 : textOk ws n = false := by simp [textOk, h0]
    have E2 : Hid (textV ws n = []) := by show _ = _; simp [textV, e1]
    have E1 := hid e1
    clear e1
    obtain ⟨a, cap, rfl, hnc, hcm, hcell⟩ := hr.open
    clear hcell
    go_enter Tryd.func78, Tryd.ntmps78
    go_wp2
    go_ret2
    exact ⟨by rw [E1.out, E2.out]; rfl, Below.refl _ _⟩
end SBitsText

section SRefText
open Go.RowKit

set_option maxRecDepth 100000 in
set_option maxHeartbeats 800000 in
theorem rtext_loop (ws : List (BitVec 64)) (v : Value) (m : Nat) (w : World) (hr : Row w 1 v ws.length (ws.map U)) (hn : m ≤ 9223372036854775807) (hc : (ws.length : Int) = countV m) (hl : ws.length ≤ 1099511627776) :
    Calls Tryd.prog 75 #[v, .int .i64 m] w fun e w' => e = .returned (.tuple #[.string ⟨(textV ws m).toArray⟩, .bool (textOk ws m)]) ∧ Below w.heap.size w w' := by
  obtain ⟨a, cap, rfl, hnc, hcm, hcell⟩ := hr.open
  obtain ⟨i0, hi, hz0, hz1, hz2⟩ := info_parts infoU8
  have Hc := hid hc
  have hcb : ((ws.length : Int) != countV m) = false := by simpa using hc
  have hm8 : m ≤ 8 * ws.length := by unfold countV at hc; split at hc <;> omega
  clear hc hnc hcm hr
  generalize hB : w.heap.size = B at *
  have hown0 : w.ownsRow B 5 1 (.slice none 0 0) 0 (byteCells ws 0) := World.ownsRow_nil _ _ _ _
  go_enter Tryd.func75, Tryd.ntmps75
  go_wp2_with fail
  ((with_reducible refine (rcount_any _ _ (by omega)).mono ?_); rintro e w' ⟨rfl, rfl⟩)
  go_wp2_with fail
  go_loopw [6, 7] (fun t i wr => ∃ k : Nat, k ≤ 8 * ws.length ∧ i = .int .i64 k ∧ wr.ownsRow B 5 1 t (min k m) (byteCells ws (min k m)) ∧ Below B w wr ∧ ∀ u, m ≤ u → u < k → byteAt ws u = 0) (fun _ i _ => 8 * ws.length - (intOf i).toNat)
  case atStart => exact ⟨0, by omega, rfl, by simpa using hown0, Below.refl _ _, fun u h1 h2 => by omega⟩
  case round =>
    clear hown0
    obtain ⟨k, hk, rfl, hown, hb, hz⟩ := hrel
    have Hz := hid hz
    clear hz
    by_cases hlt : k < 8 * ws.length
    · obtain ⟨b, off, rfl, hbb, hcell⟩ := hcell (by omega)
      have hck : wr.cell? ⟨b, off + k / 8, none⟩ = some (U (ws.getD (k / 8) 0#64)) := by
        rw [hb.cell (p := ⟨b, off + k / 8, none⟩) (by omega), hcell (k / 8) (by omega)]
        have : k / 8 < ws.length := by omega
        simp [List.getD, this]
      clear hcell
      have hby : by8 (ws.getD (k / 8) 0#64 >>> (8 * (k % 8))) = byteAt ws k := rfl
      generalize ws.getD (k / 8) 0#64 = x at *
      have hkm : k % 8 * 8 % 18446744073709551616 = 8 * (k % 8) := by omega
      by_cases hkn : k < m
      · have hmin : min k m = k := by omega
        rw [hmin] at hown
        clear hmin
        go_wp2_with (at_builtin; refine wpList_append_own _ rfl (.tmp 39) (.tmp 41) 144 rfl B 5 i0 (.int .u8 0) 1 1 Tryd.underlying144 hi hz0 hz1 hz2 rfl (by decide) _ _ _ rfl (hown.alloc _) ⟨wr.heap.size, 0, none⟩ 1 1 [Y (byteAt ws k)] rfl rfl (cell_one_new _ _ _) (by intro u hu; simp at hu; subst hu; rfl) (by unfold maxLen; omega) (by omega) (by have := hb.size; simp; omega) ?_)
        intro v' w2 hown2 hg _
        have hb2 : Below B w w2 := own_below hb (by have := hb.size; omega) hown hg
        rw [byteCells_succ] at hown2
        have hown3 : w2.ownsRow B 5 1 v' (min (k + 1) m) (byteCells ws (min (k + 1) m)) := by rw [show min (k + 1) m = k + 1 by omega]; exact hown2
        clear hown hb hg hown2 hby hck hkm
        go_wp2
        go_roundw
        case rel => exact ⟨k + 1, by omega, by go_num, hown3, hb2, fun u h1 h2 => by omega⟩
        case measure => simp [intOf] <;> omega
      · have hown3 : wr.ownsRow B 5 1 u6 (min (k + 1) m) (byteCells ws (min (k + 1) m)) := by rw [show min (k + 1) m = min k m by omega]; exact hown
        have Hown := hid hown3
        clear hown hown3
        by_cases hzz : byteAt ws k = 0
        · have hb0 : (((byteAt ws k).toNat : Int) != 0) = false := by rw [hzz]; rfl
          have Hzz := hid hzz
          clear hzz
          go_wp2
          go_roundw
          case rel => exact ⟨k + 1, by omega, by go_num, Hown.out, hb, fun u h1 h2 => by
            by_cases e : u = k
            · rw [e]; exact Hzz.out
            · exact Hz.out u h1 (by omega)⟩
          case measure => simp [intOf] <;> omega
        · have hb0 : (((byteAt ws k).toNat : Int) != 0) = true := by
            rw [bne_iff_ne]; intro h; apply hzz; rw [← UInt8.toNat_inj]; simpa using h
          obtain ⟨e1, e2⟩ := textOk_not ws m k (by omega) (by omega) hzz
          have E1 := hid e1
          have E2 := hid e2
          clear hzz e1 e2
          go_wp2
          go_ret2
          exact ⟨ret_text E2.out.symm E1.out.symm, hB ▸ hb⟩
    · obtain rfl : k = 8 * ws.length := by omega
      obtain ⟨e1, e2⟩ := textOk_of ws m Hc.out (fun u h1 h2 => Hz.out u h1 (by omega))
      have E1 := hid e1
      have E2 := hid e2
      rw [show min (8 * ws.length) m = m by omega] at hown
      have hown2 := hown.2
      clear hcell e1 e2
      rcases hown2 with ⟨rfl, h0⟩ | ⟨g, cap', cur, rfl, _⟩
      · have hconv := run_convert_bytes_nil (P := Tryd.prog) (w := wr) 144 5 Tryd.underlying144 Tryd.underlying5 0 0 9 Tryd.underlying9
        have h0' : m ≤ 0 := by omega
        clear hown h0
        go_wp2
        go_ret2
        exact ⟨ret_text (by rw [E2.out, show m = 0 by omega]; rfl) E1.out.symm, hB ▸ hb⟩
      · have hconv := run_back (P := Tryd.prog) (w := wr) 144 9 5 g cap' ws m Tryd.underlying144 Tryd.underlying5 Tryd.underlying9 hm8 (fun j hj => by
          rw [hown.cellAt j (by omega)]; simp [byteCells, hj])
        clear hown
        go_wp2
        go_ret2
        exact ⟨ret_text E2.out.symm E1.out.symm, hB ▸ hb⟩

set_option maxRecDepth 100000 in
set_option maxHeartbeats 400000 in
theorem rtext_any (ws : List (BitVec 64)) (v : Value) (n : Int) (w : World) (hr : Row w 1 v ws.length (ws.map U)) (hn : -9223372036854775808 ≤ n ∧ n ≤ 9223372036854775807) (hl : ws.length ≤ 1099511627776) :
    Calls Tryd.prog 75 #[v, .int .i64 n] w fun e w' => e = .returned (.tuple #[.string ⟨(textV ws n).toArray⟩, .bool (textOk ws n)]) ∧ Below w.heap.size w w' := by
  by_cases h0 : 0 ≤ n
  · by_cases hc : (ws.length : Int) = countV n
    · obtain ⟨m, rfl⟩ := Int.eq_ofNat_of_zero_le h0
      exact rtext_loop ws v m w hr (by omega) hc hl
    · have e1 : textOk ws n = false := by simp [textOk, hc]
      have E2 : Hid (textV ws n = []) := by show _ = _; simp [textV, e1]
      have E1 := hid e1
      clear e1
      obtain ⟨a, cap, rfl, hnc, hcm, hcell⟩ := hr.open
      have hcb : ((ws.length : Int) != countV n) = true := by simpa using hc
      clear hcell hc
      go_enter Tryd.func75, Tryd.ntmps75
      go_wp2_with fail
      ((with_reducible refine (rcount_any _ _ (by omega)).mono ?_); rintro e w' ⟨rfl, rfl⟩)
      go_wp2
      go_ret2
      exact ⟨ret_text E2.out.symm E1.out.symm, Below.refl _ _⟩
  · have e1 : textOk ws n = false := by simp [textOk, h0]
    have E2 : Hid (textV ws n = []) := by show _ = _; simp [textV, e1]
    have E1 := hid e1
    clear e1
    obtain ⟨a, cap, rfl, hnc, hcm, hcell⟩ := hr.open
    clear hcell
    go_enter Tryd.func75, Tryd.ntmps75
    go_wp2
    go_ret2
    exact ⟨ret_text E2.out.symm E1.out.symm, Below.refl _ _⟩
end SRefText

end Go.Proofs.YtblbhlgihlgncaaDoor


import Derived.Test.YtbohkamhcdnmbaaB8
import Derived.Test.YtbohkamhcdnmbaaBs2
set_option linter.unusedVariables false
namespace Go.Proofs.Ytbohkamhcdnmbaa
open Go.RowKit

/-- The bytes of words, lowest first. -/
def byteAt (ws : List (BitVec 64)) (i : Nat) : UInt8 := by8 (ws.getD (i / 8) 0#64 >>> (8 * (i % 8)))
def bytesV (ws : List (BitVec 64)) : List UInt8 := (List.range (8 * ws.length)).map (byteAt ws)
def textOk (ws : List (BitVec 64)) (n : Int) : Bool := decide (0 ≤ n) && decide ((ws.length : Int) = countV n) && ((bytesV ws).drop n.toNat).all (· == 0)
def textV (ws : List (BitVec 64)) (n : Int) : List UInt8 := if textOk ws n then (bytesV ws).take n.toNat else []

theorem info5 : (Try.prog.info? 5).map (fun i => (i.zero, i.size, i.bytes)) = some (some (.int .u8 0), 1, 1) := by kernel_rfl

/-- The first k bytes, as cells. -/
def byteCells (ws : List (BitVec 64)) (k : Nat) : List Value := (List.range k).map fun i => Y (byteAt ws i)
theorem byteCells_succ (ws : List (BitVec 64)) (k : Nat) : byteCells ws k ++ [Y (byteAt ws k)] = byteCells ws (k + 1) := by
  simp [byteCells, List.range_succ]

theorem bytesV_length (ws : List (BitVec 64)) : (bytesV ws).length = 8 * ws.length := by simp [bytesV]
theorem bytesV_get (ws : List (BitVec 64)) (i : Nat) (h : i < 8 * ws.length) : (bytesV ws)[i]? = some (byteAt ws i) := by simp [bytesV, h]

theorem textOk_of (ws : List (BitVec 64)) (m : Nat) (hc : (ws.length : Int) = countV m) (h : ∀ t, m ≤ t → t < 8 * ws.length → byteAt ws t = 0) : textOk ws m = true ∧ textV ws m = (bytesV ws).take m := by
  have : textOk ws m = true := by
    unfold textOk
    rw [Int.toNat_natCast]
    simp only [Bool.and_eq_true, decide_eq_true_eq, List.all_eq_true]
    refine ⟨⟨by omega, hc⟩, fun x hx => ?_⟩
    obtain ⟨t, ht⟩ := List.mem_iff_getElem?.1 hx
    rw [List.getElem?_drop] at ht
    have hlt : m + t < 8 * ws.length := by
      have := (List.getElem?_eq_some_iff.1 ht).1
      rwa [bytesV_length] at this
    rw [bytesV_get ws _ hlt, h _ (by omega) hlt] at ht
    cases ht; rfl
  exact ⟨this, by unfold textV; rw [if_pos this, Int.toNat_natCast]⟩

theorem textOk_not (ws : List (BitVec 64)) (m t : Nat) (h1 : m ≤ t) (h2 : t < 8 * ws.length) (h : byteAt ws t ≠ 0) : textOk ws m = false ∧ textV ws m = [] := by
  have : textOk ws m = false := by
    unfold textOk
    rw [Int.toNat_natCast, Bool.and_eq_false_iff]
    right
    rw [List.all_eq_false]
    refine ⟨byteAt ws t, ?_, by simpa using h⟩
    rw [List.mem_iff_getElem?]
    exact ⟨t - m, by rw [List.getElem?_drop, show m + (t - m) = t by omega, bytesV_get ws t h2]⟩
  exact ⟨this, by unfold textV; rw [if_neg (by rw [this]; decide)]⟩

theorem run_back {P : Program} {w : World} (src dst e : TypeId) (B cap : Nat) (ws : List (BitVec 64)) (m : Nat) (hs : P.underlying src = some (.slice e)) (he : P.underlying e = some (.int .u8)) (hd : P.underlying dst = some .string) (hm : m ≤ 8 * ws.length)
    (hc : ∀ j, j < m → w.cell? ⟨B, j, none⟩ = some (Y (byteAt ws j))) :
    (convert src dst (.slice (some ⟨B, 0, none⟩) m cap)).run P w = .ok (.string ⟨((bytesV ws).take m).toArray⟩) w := by
  have hl : ((bytesV ws).take m).length = m := by rw [List.length_take, bytesV_length]; omega
  have := run_convert_bytes_back (P := P) w src dst e ⟨B, 0, none⟩ cap ((bytesV ws).take m) hs he hd (fun j hj => by
    rw [hl] at hj
    have h1 : ((bytesV ws).take m)[j]? = some (byteAt ws j) := by rw [List.getElem?_take, if_pos hj, bytesV_get ws j (by omega)]
    have h2 := List.getElem_of_getElem? h1
    rw [h2.2]
    have : (⟨B, 0, none⟩ : Addr).add j = ⟨B, j, none⟩ := by rw [Addr.add_lit]; simp
    rw [this]
    exact hc j (by omega))
  rwa [hl] at this

theorem byteCells_at {w : World} {base : Nat} {e : TypeId} {B cap : Nat} {ws : List (BitVec 64)} (h : w.ownsRow base e 1 (.slice (some ⟨B, 0, none⟩) (8 * ws.length) cap) (8 * ws.length) (byteCells ws (8 * ws.length))) (j : Nat) (hj : j < 8 * ws.length) :
    w.cell? ⟨B, j, none⟩ = some (Y (byteAt ws j)) := by
  rw [h.cellAt j (by omega)]; simp [byteCells, hj]

theorem ret_text {a b : List UInt8} {x y : Bool} (h1 : a = b) (h2 : x = y) : Ending.returned (.tuple #[.string ⟨a.toArray⟩, .bool x]) = .returned (.tuple #[.string ⟨b.toArray⟩, .bool y]) := by rw [h1, h2]

set_option maxHeartbeats 800000 in
theorem text_loop (ws : List (BitVec 64)) (v : Value) (n : Int) (w : World) (hr : Row w 1 v ws.length (ws.map U)) (h0 : 0 ≤ n) (hn : n ≤ 9223372036854775807) (hc : (ws.length : Int) = countV n) (hl : ws.length ≤ 17592186044416) :
    Calls Try.prog 17 #[v, .int .i64 n] w fun e w' => e = .returned (.tuple #[.string ⟨(textV ws n).toArray⟩, .bool (textOk ws n)]) ∧ Below w.heap.size w w' := by
  obtain ⟨a, cap, rfl, hnc, hcm, hcell⟩ := hr.open
  obtain ⟨i0, hi, hz0, hz1, hz2⟩ := info_parts info5
  have Hc := hid hc
  have hc' : ¬ ((ws.length : Int) ≠ countV n) := by simpa using hc
  have hcb : ((ws.length : Int) != countV n) = false := by simpa using hc
  have hbd : i0.bytes * (8 * ws.length) ≤ 281474976710656 := by rw [hz2]; omega
  have hmx : 8 * ws.length ≤ maxLen := by unfold maxLen; omega
  clear hc hc' hnc hcm
  generalize hB : w.heap.size = B at *
  go_enter Try.func17, Try.ntmps17
  go_wp2_with fail
  ((with_reducible refine (count_any _ _ (by omega)).mono ?_); rintro e w' ⟨rfl, rfl⟩)
  go_wp2_with (at_make; refine wpList_make_own _ rfl _ _ 49 rfl w.heap.size 5 i0 (.int .u8 0) 1 Try.underlying49 hi hz0 hz1 .i64 .i64 _ (8 * ws.length) rfl rfl (by omega) hbd hmx (Nat.le_refl _) ?_)
  intro w1 hown hg
  have hb : Below B w w1 := (Below.refl _ _).grown hg (by omega) (by intro k h; cases h)
  have hown0 : w1.ownsRow B 5 1 (.slice (some ⟨B, 0, none⟩) (8 * 0) (8 * ws.length)) (8 * 0) (byteCells ws (8 * 0)) := hown
  clear hown hg
  go_wp2_with fail
  go_loopw [6, 26] (fun t i wr => ∃ k : Nat, k ≤ ws.length ∧ i = .int .i64 k ∧ t = .slice (some ⟨B, 0, none⟩) (8 * k) (8 * ws.length) ∧ wr.ownsRow B 5 1 (.slice (some ⟨B, 0, none⟩) (8 * k) (8 * ws.length)) (8 * k) (byteCells ws (8 * k)) ∧ Below B w wr) (fun _ i _ => ws.length - (intOf i).toNat)
  case atStart => exact ⟨0, by omega, rfl, rfl, hown0, hb⟩
  case round =>
    clear hown0 hb
    obtain ⟨k, hk, rfl, rfl, hown, hb⟩ := hrel
    by_cases hlt : k < ws.length
    · obtain ⟨b, off, rfl, hbb, hcell⟩ := hcell (by omega)
      have hck : wr.cell? ⟨b, off + k, none⟩ = some (U (ws.getD k 0#64)) := by
        rw [hb.cell (p := ⟨b, off + k, none⟩) (by omega), hcell k (by omega)]
        simp [List.getD, hlt]
      clear hcell
      generalize hx : ws.getD k 0#64 = x at *
      have Hx := hid hx
      clear hx
      go_wp2_with fail
      obtain ⟨wo, rfl⟩ : ∃ wo : World, wo = wr := ⟨_, rfl⟩
      clear hck
      go_loopw [6, 8, 30] (fun t u i wr => ∃ j : Nat, j ≤ 8 ∧ i = .int .i64 j ∧ u = U (x >>> (8 * j)) ∧ t = .slice (some ⟨B, 0, none⟩) (8 * k + j) (8 * ws.length) ∧ wr.ownsRow B 5 1 (.slice (some ⟨B, 0, none⟩) (8 * k + j) (8 * ws.length)) (8 * k + j) (byteCells ws (8 * k + j)) ∧ Below B w wr) (fun _ _ i _ => 8 - (intOf i).toNat)
      case atStart => exact ⟨0, by omega, rfl, by simp, rfl, hown, hb⟩
      case round =>
        clear hown hb
        obtain ⟨j, hj, rfl, rfl, rfl, hown, hb⟩ := hrel
        by_cases hj8 : j < 8
        · go_wp2_with (at_builtin; refine wpList_append_fits _ rfl (.tmp 32) (.tmp 35) 49 rfl B 5 i0 1 Try.underlying49 hi hz1 B (8 * k + j) (8 * ws.length) _ rfl (hown.alloc _) ⟨wr.heap.size, 0, none⟩ 1 1 [Y (by8 (x >>> (8 * j)))] rfl rfl (cell_one_new _ _ _) (by intro u hu; simp at hu; subst hu; rfl) (by omega) ?_)
          intro w2 hown2 hg
          have hb2 : Below B w w2 := (hb.alloc (by have := hb.size; omega) _).grown hg (by have := hb.size; simp; omega) (by intro k h; cases h; exact Nat.le_refl _)
          clear hown hb hg
          have hxb : by8 (x >>> (8 * j)) = byteAt ws (8 * k + j) := by
            unfold byteAt
            rw [show (8 * k + j) / 8 = k by omega, show (8 * k + j) % 8 = j by omega, Hx.out]
          rw [hxb, byteCells_succ] at hown2
          clear hxb
          have hsh := hid (BitVec.shiftRight_add x (8 * j) 8)
          go_wp2
          go_roundw
          case rel => exact ⟨j + 1, by omega, by go_num, by rw [← hsh.out]; rfl, rfl, hown2, hb2⟩
          case measure => simp [intOf] <;> omega
        · obtain rfl : j = 8 := by omega
          have e : 8 * k + 8 = 8 * (k + 1) := by omega
          rw [e] at hown ⊢
          clear e
          go_wp2
          go_roundw
          case rel => exact ⟨k + 1, by omega, by go_num, rfl, hown, hb⟩
          case measure => simp [intOf] <;> omega
    · obtain rfl : k = ws.length := by omega
      clear hcell
      obtain ⟨m, rfl⟩ := Int.eq_ofNat_of_zero_le h0
      have hm8 : m ≤ 8 * ws.length := by have := Hc.out; unfold countV at this; split at this <;> omega
      have hat := byteCells_at hown
      have hbk := run_back (P := Try.prog) 49 9 5 B (8 * ws.length) ws m Try.underlying49 Try.underlying5 Try.underlying9 hm8 (fun j hj => hat j (by omega))
      by_cases hme : m < 8 * ws.length
      · go_wp2_with fail
        go_loop [45] (fun i => ∃ t : Nat, t ≤ 8 * ws.length - m ∧ i = .int .i64 t ∧ ∀ u, m ≤ u → u < m + t → byteAt ws u = 0) (fun i => 8 * ws.length - m - (intOf i).toNat)
        case atStart => exact ⟨0, by omega, rfl, fun u h1 h2 => by omega⟩
        case round =>
          obtain ⟨t, ht, rfl, hz⟩ := hrel
          have Hz := hid hz
          clear hz
          by_cases hlt2 : t < 8 * ws.length - m
          · have hct : wr.cell? ⟨B, m + t, none⟩ = some (.int .u8 ((byteAt ws (m + t)).toNat : Int)) := hat (m + t) (by omega)
            clear hat hbk
            by_cases hzz : byteAt ws (m + t) = 0
            · have hb0 : (((byteAt ws (m + t)).toNat : Int) != 0) = false := by rw [hzz]; rfl
              have Hzz := hid hzz
              clear hzz
              go_wp2
              go_round
              case rel => exact ⟨t + 1, by omega, by go_num, fun u h1 h2 => by
                by_cases e : u = m + t
                · rw [e]; exact Hzz.out
                · exact Hz.out u h1 (by omega)⟩
              case measure => simp [intOf] <;> omega
            · have hb0 : (((byteAt ws (m + t)).toNat : Int) != 0) = true := by
                rw [bne_iff_ne]; intro h; apply hzz; rw [← UInt8.toNat_inj]; simpa using h
              obtain ⟨e1, e2⟩ := textOk_not ws m (m + t) (by omega) (by omega) hzz
              have E1 := hid e1
              have E2 := hid e2
              clear hzz e1 e2
              go_wp2
              go_ret2
              exact ⟨by rw [E1.out, E2.out]; rfl, hB ▸ hb⟩
          · obtain rfl : t = 8 * ws.length - m := by omega
            clear hat
            obtain ⟨e1, e2⟩ := textOk_of ws m Hc.out (fun u h1 h2 => Hz.out u h1 (by omega))
            have E1 := hid e1
            have E2 := hid e2
            clear e1 e2
            go_wp2
            go_ret2
            exact ⟨by rw [E1.out, E2.out]; rfl, hB ▸ hb⟩
      · obtain rfl : m = 8 * ws.length := by omega
        obtain ⟨e1, e2⟩ := textOk_of ws _ Hc.out (fun u h1 h2 => by omega)
        have E1 := hid e1
        have E2 := hid e2
        clear hat e1 e2
        go_wp2_with fail
        go_loop [45] (fun i => i = .int .i64 0) (fun i => 0)
        case atStart => rfl
        case round =>
          obtain rfl := hrel
          go_wp2
          go_ret2
          exact ⟨ret_text (by rw [← E2.out]; rfl) (by rw [← E1.out]; rfl), hB ▸ hb⟩

theorem countV_nat (m : Nat) : ∃ c : Nat, countV m = c ∧ 8 * c ≤ m + 7 := by
  unfold countV; split
  · exact ⟨0, rfl, by omega⟩
  · exact ⟨(m + 7) / 8, by omega, by omega⟩

set_option maxHeartbeats 400000 in
theorem text_any (ws : List (BitVec 64)) (v : Value) (n : Int) (w : World) (hr : Row w 1 v ws.length (ws.map U)) (hn : -9223372036854775808 ≤ n ∧ n ≤ 9223372036854775807) (hl : ws.length ≤ 17592186044416) :
    Calls Try.prog 17 #[v, .int .i64 n] w fun e w' => e = .returned (.tuple #[.string ⟨(textV ws n).toArray⟩, .bool (textOk ws n)]) ∧ Below w.heap.size w w' := by
  by_cases h0 : 0 ≤ n
  · by_cases hc : (ws.length : Int) = countV n
    · exact text_loop ws v n w hr h0 hn.2 hc hl
    · have e1 : textOk ws n = false := by simp [textOk, hc]
      have E2 : Hid (textV ws n = []) := by show _ = _; simp [textV, e1]
      have E1 := hid e1
      clear e1
      obtain ⟨a, cap, rfl, hnc, hcm, hcell⟩ := hr.open
      have hcb : ((ws.length : Int) != countV n) = true := by simpa using hc
      clear hcell hc
      go_enter Try.func17, Try.ntmps17
      go_wp2_with fail
      ((with_reducible refine (count_any _ _ (by omega)).mono ?_); rintro e w' ⟨rfl, rfl⟩)
      go_wp2
      go_ret2
      exact ⟨by rw [E1.out, E2.out]; rfl, Below.refl _ _⟩
  · have e1 : textOk ws n = false := by simp [textOk, h0]
    have E2 : Hid (textV ws n = []) := by show _ = _; simp [textV, e1]
    have E1 := hid e1
    clear e1
    obtain ⟨a, cap, rfl, hnc, hcm, hcell⟩ := hr.open
    clear hcell
    go_enter Try.func17, Try.ntmps17
    go_wp2
    go_ret2
    exact ⟨by rw [E1.out, E2.out]; rfl, Below.refl _ _⟩
end Go.Proofs.Ytbohkamhcdnmbaa

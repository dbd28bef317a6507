import Derived.Test.YtbohkamhcdnmbaaB9
import Derived.Test.YtbohkamhcdnmbaaPl4
set_option linter.unusedVariables false
namespace Go.Proofs.Ytbohkamhcdnmbaa
open Go.RowKit

theorem rcount_any (n : Int) (w : World) (hn : -9223372036854775808 ≤ n ∧ n ≤ 9223372036854775807) :
    Calls Try.prog 23 #[.int .i64 n] w fun e w' => e = .returned (.int .i64 (countV n)) ∧ w = w' := by
  by_cases h0 : n ≤ 0
  · have Hr : Hid (countV n = 0) := by unfold countV; exact if_pos h0
    go_enter Try.func23, Try.ntmps23
    go_wp2
    go_ret
    exact ⟨ret_i64 (by rw [Hr.out]), rfl⟩
  · have Hr : Hid (countV n = (n + 7) / 8) := by unfold countV; exact if_neg h0
    go_enter Try.func23, Try.ntmps23
    go_wp2
    go_ret
    exact ⟨ret_i64 (by rw [Hr.out]; omega), rfl⟩

set_option maxHeartbeats 400000 in
theorem rword_yes (s : ByteArray) (i : Nat) (w : World) (hs : s.size ≤ 140737488351232) (hi : (i : Int) < countV s.size) :
    Calls Try.prog 25 #[.string s, .int .i64 i] w fun e w' => e = .returned (U (wordV s.data.toList i)) ∧ w = w' := by
  have Hw := hid (down_word s.data.toList i (by simpa using hi))
  have h8 : 8 * i < s.size := by unfold countV at hi; split at hi <;> omega
  have hi' : ¬ (countV s.size ≤ i) := by omega
  clear hi
  go_enter Try.func25, Try.ntmps25
  go_wp2_with fail
  ((with_reducible refine (rcount_any _ _ (by omega)).mono ?_); rintro e w' ⟨rfl, rfl⟩)
  go_wp2_with fail
  generalize hf : (fun k => s.data.toList.getD (8 * i + k) 0) = f at *
  have Hf := hid hf
  clear hf
  go_loop [5, 6] (fun v c => ∃ m : Nat, m ≤ 8 ∧ c = .int .i64 (7 - (m : Int)) ∧ v = U (downV f m)) (fun _ c => (intOf c + 1).toNat)
  case atStart => exact ⟨0, by omega, rfl, rfl⟩
  case round =>
    obtain ⟨m, hm, rfl, rfl⟩ := hrel
    by_cases hm8 : m < 8
    · obtain ⟨k, hk⟩ := Int.eq_ofNat_of_zero_le (show 0 ≤ 7 - (m : Int) by omega)
      have hk7 : k ≤ 7 := by omega
      have hst : downV f (m + 1) = 256#64 * downV f m + BitVec.ofNat 64 (f k).toNat := by rw [downV, show 7 - m = k by omega]
      have Hk := hid hk
      rw [hk]
      clear hk
      by_cases hlt : 8 * i + k < s.size
      · have hfk : f k = s[8 * i + k] := by
          rw [← Hf.out]
          show s.data.toList.getD (8 * i + k) 0 = _
          rw [List.getD_eq_getElem?_getD, List.getElem?_eq_getElem (by simpa using hlt), Option.getD_some]; rfl
        rw [hfk] at hst
        have Hst := hid hst
        clear hst hfk
        go_wp2
        go_round
        case rel => exact ⟨m + 1, by omega, by have := Hk.out; go_num, by rw [Hst.out]⟩
        case measure => have := Hk.out; simp [intOf] <;> omega
      · have hfk : f k = 0 := by
          rw [← Hf.out]
          show s.data.toList.getD (8 * i + k) 0 = _
          rw [List.getD_eq_getElem?_getD, List.getElem?_eq_none (by simp; omega)]; rfl
        rw [hfk] at hst
        have Hst := hid hst
        clear hst hfk
        go_wp2
        go_round
        case rel => exact ⟨m + 1, by omega, by have := Hk.out; go_num, by rw [Hst.out]; simp⟩
        case measure => have := Hk.out; simp [intOf] <;> omega
    · obtain rfl : m = 8 := by omega
      go_wp2
      go_ret
      exact ⟨ret_U Hw.out, rfl⟩

set_option maxHeartbeats 400000 in
theorem rword_any (s : ByteArray) (i : Int) (w : World) (hs : s.size ≤ 140737488351232) :
    Calls Try.prog 25 #[.string s, .int .i64 i] w fun e w' => e = .returned (U (wordV s.data.toList i)) ∧ w = w' := by
  by_cases h0 : i < 0
  · have hr : Hid (wordV s.data.toList i = 0#64) := by unfold wordV; exact if_pos (.inl h0)
    go_enter Try.func25, Try.ntmps25
    go_wp2_with fail
    go_ret
    exact ⟨by rw [hr.out]; rfl, rfl⟩
  · by_cases h1 : i < countV s.size
    · obtain ⟨k, rfl⟩ := Int.eq_ofNat_of_zero_le (by omega : 0 ≤ i)
      exact rword_yes s k w hs h1
    · have hr : Hid (wordV s.data.toList i = 0#64) := by unfold wordV; exact if_pos (.inr (by simpa using h1))
      go_enter Try.func25, Try.ntmps25
      go_wp2_with fail
      ((with_reducible refine (rcount_any _ _ (by omega)).mono ?_); rintro e w' ⟨rfl, rfl⟩)
      go_wp2_with fail
      go_ret
      exact ⟨by rw [hr.out]; rfl, rfl⟩

/-- Behind an append to what the call owns. -/
theorem own_below {B : Nat} {w wr w2 : World} {o : Obj} {e : TypeId} {size n : Nat} {v : Value} {xs : List Value} (hb : Below B w wr) (hB : B ≤ wr.heap.size) (hown : wr.ownsRow B e size v n xs) (hg : (wr.alloc o).grownBy w2 v.ownBlock) : Below B w w2 :=
  (hb.alloc hB o).grown hg (by simp; omega) (fun k h => ((hown.lt k h).1))

theorem mapU_take (ws : List (BitVec 64)) (k : Nat) (h : k < ws.length) : (ws.map U).take k ++ [U (ws.getD k 0#64)] = (ws.map U).take (k + 1) := by
  rw [List.take_succ_eq_append_getElem (by simpa using h)]
  simp [List.getD, h]

set_option maxHeartbeats 400000 in
theorem rwords_any (s : ByteArray) (w : World) (hs : s.size ≤ 1099511627776) :
    Calls Try.prog 21 #[.string s] w (Gives w fun v w' => Row w' 1 v (countV s.size).toNat ((wordsV s.data.toList).map U)) := by
  obtain ⟨c, hc⟩ := Int.eq_ofNat_of_zero_le (count_le s.size (by omega)).1
  have hc8 := (count_le s.size (by omega)).2
  have hcn : (countV s.size).toNat = c := by omega
  rw [hcn]
  have hcl : 8 * c ≤ s.size + 7 := by omega
  have hwl : (wordsV s.data.toList).length = c := by simp [wordsV, hc]
  have hwg : ∀ k, k < c → (wordsV s.data.toList).getD k 0#64 = wordV s.data.toList (k : Int) := fun k hk => by
    simp [wordsV, List.getD, hc, hk]
  generalize wordsV s.data.toList = ws at *
  have Hc := hid hc
  clear hc hcn hc8
  obtain ⟨i0, hi, hz0, hz1, hz2⟩ := info_parts info22
  have hbd : i0.bytes * c ≤ 281474976710656 := by rw [hz2]; omega
  have hmx : c ≤ maxLen := by unfold maxLen; omega
  have Hwl := hid hwl
  have Hwg := hid hwg
  clear hwl hwg
  generalize hB : w.heap.size = B at *
  have hown0 : w.ownsRow B 22 1 (.slice none 0 0) 0 ((ws.map U).take 0) := World.ownsRow_nil _ _ _ _
  go_enter Try.func21, Try.ntmps21
  go_wp2_with fail
  go_loopw [3, 4] (fun t i wr => ∃ k : Nat, k ≤ c ∧ i = .int .i64 k ∧ wr.ownsRow B 22 1 t k ((ws.map U).take k) ∧ Below B w wr) (fun _ i _ => c - (intOf i).toNat)
  case atStart => exact ⟨0, by omega, rfl, hown0, Below.refl _ _⟩
  case round =>
    clear hown0
    obtain ⟨k, hk, rfl, hown, hb⟩ := hrel
    go_wp2_with fail
    ((with_reducible refine (rcount_any _ _ (by omega)).mono ?_); rintro e w' ⟨rfl, rfl⟩)
    rw [Hc.out]
    by_cases hlt : k < c
    · go_wp2_with fail
      ((with_reducible refine (rword_any _ _ _ (by omega)).mono ?_); rintro e w' ⟨rfl, rfl⟩)
      go_wp2_with (at_builtin; refine wpList_append_own _ rfl (.tmp 12) (.tmp 16) 37 rfl B 22 i0 (.int .u64 0) 1 8 Try.underlying37 hi hz0 hz1 hz2 rfl (by decide) _ _ _ rfl (hown.alloc _) ⟨wr.heap.size, 0, none⟩ 1 1 [U (wordV s.data.toList (k : Int))] rfl rfl (cell_one_new _ _ _) (by intro u hu; simp at hu; subst hu; rfl) (by unfold maxLen; omega) (by omega) (by have := hb.size; simp; omega) ?_)
      intro v' w2 hown2 hg _
      have hb2 : Below B w w2 := own_below hb (by have := hb.size; omega) hown hg
      rw [← Hwg.out k hlt, mapU_take ws k (by rw [Hwl.out]; exact hlt)] at hown2
      clear hown hb hg
      go_wp2
      go_roundw
      case rel => exact ⟨k + 1, by omega, by go_num, hown2, hb2⟩
      case measure => simp [intOf] <;> omega
    · obtain rfl : k = c := by omega
      rw [List.take_of_length_le (by rw [List.length_map, Hwl.out]; exact Nat.le_refl _)] at hown
      have Hown := hid hown
      clear hown
      go_wp2
      go_ret
      exact ⟨_, rfl, hB ▸ hb, Row.of_owns Hown.out⟩

set_option maxHeartbeats 400000 in
theorem same_any (xs ys : List (BitVec 64)) (u v : Value) (n m : Nat) (w : World) (hx : Row w 1 u n (xs.map U)) (hy : Row w 1 v m (ys.map U)) :
    Calls Try.prog 19 #[u, v] w fun e w' => e = .returned (.bool (xs == ys)) ∧ ∃ k, w' = w.drewN k := by
  have hxl : xs.length = n := by have := hx.len; simpa using this
  have hyl : ys.length = m := by have := hy.len; simpa using this
  obtain ⟨a, cap, rfl, hnc, hcm, hcell⟩ := hx.open
  obtain ⟨a2, cap2, rfl, hnc2, hcm2, hcell2⟩ := hy.open
  have hxm := hx.most
  have hym := hy.most
  unfold maxLen at hxm hym
  clear hx hy hnc hcm hnc2 hcm2
  by_cases hl : n = m
  · subst hl
    have Hxl := hid hxl
    have Hyl := hid hyl
    clear hxl hyl
    go_enter Try.func19, Try.ntmps19
    go_wp2_with fail
    go_loopw [5] (fun i wr => (∃ q, wr = w.drewN q) ∧ ∃ k : Nat, k ≤ n ∧ i = .int .i64 k ∧ xs.take k = ys.take k) (fun i _ => n - (intOf i).toNat)
    case atStart => exact ⟨⟨0, rfl⟩, 0, by omega, rfl, rfl⟩
    case round =>
      obtain ⟨⟨q, rfl⟩, k, hk, rfl, hkk⟩ := hrel
      have Hkk := hid hkk
      clear hkk
      by_cases hlt : k < n
      · obtain ⟨b, off, rfl, hbb, hc1⟩ := hcell (by omega)
        obtain ⟨b2, off2, rfl, hbb2, hc2⟩ := hcell2 (by omega)
        have hxk : xs[k]? = some (xs.getD k 0#64) := by
          rw [List.getD_eq_getElem?_getD, List.getElem?_eq_getElem (by rw [Hxl.out]; exact hlt)]; rfl
        have hyk : ys[k]? = some (ys.getD k 0#64) := by
          rw [List.getD_eq_getElem?_getD, List.getElem?_eq_getElem (by rw [Hyl.out]; exact hlt)]; rfl
        generalize xs.getD k 0#64 = x at *
        generalize ys.getD k 0#64 = y at *
        have c1 : w.cell? ⟨b, off + k, none⟩ = some (U x) := by rw [hc1 k (by omega), List.getElem?_map, hxk]; rfl
        have c2 : w.cell? ⟨b2, off2 + k, none⟩ = some (U y) := by rw [hc2 k (by omega), List.getElem?_map, hyk]; rfl
        have Hxk := hid hxk
        have Hyk := hid hyk
        clear hc1 hc2 hcell hcell2 hxk hyk
        by_cases hxy : x = y
        · subst hxy
          go_wp2_with fail
          go_quiet (fail)
          go_wp2
          go_roundw
          case rel => exact ⟨⟨_, rfl⟩, k + 1, by omega, by go_num, by rw [List.take_add_one, List.take_add_one, Hkk.out, Hxk.out, Hyk.out]⟩
          case measure => simp [intOf] <;> omega
        · have hne : (x != y) = true := by simpa using hxy
          have hno : Hid ((xs == ys) = false) := by
            show _ = _
            rw [beq_eq_false_iff_ne]
            intro h
            have h1 := Hxk.out
            rw [h, Hyk.out] at h1
            exact hxy (Option.some.inj h1).symm
          clear hxy
          go_wp2_with fail
          go_quiet (fail)
          go_wp2
          go_ret
          exact ⟨by rw [hno.out]; rfl, _, World.drewN_drewN _ _ _⟩
      · obtain rfl : k = n := by omega
        have hyes : Hid ((xs == ys) = true) := by
          show _ = _
          rw [beq_iff_eq]
          have := Hkk.out
          rwa [List.take_of_length_le (by rw [Hxl.out]; exact Nat.le_refl _), List.take_of_length_le (by rw [Hyl.out]; exact Nat.le_refl _)] at this
        clear hcell hcell2
        go_wp2
        go_ret
        exact ⟨by rw [hyes.out]; rfl, _, rfl⟩
  · have hne : ((n : Int) != (m : Int)) = true := by rw [bne_iff_ne]; omega
    have hno : Hid ((xs == ys) = false) := by
      show _ = _
      rw [beq_eq_false_iff_ne]
      intro h; subst h; omega
    clear hl hcell hcell2
    go_enter Try.func19, Try.ntmps19
    go_wp2
    go_ret
    exact ⟨by rw [hno.out]; rfl, 0, rfl⟩
end Go.Proofs.Ytbohkamhcdnmbaa

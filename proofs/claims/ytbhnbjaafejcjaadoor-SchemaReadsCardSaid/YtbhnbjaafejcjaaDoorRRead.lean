/- The document's Read, of schemas. -/
import Derived.Test.YtbhnbjaafejcjaaDoorSRead
import Derived.Test.YtbhnbjaafejcjaaDoorRRight
set_option linter.unusedVariables false
namespace Go.Proofs.YtbhnbjaafejcjaaDoor
open Go.RowKit

def RReadP (ws : List (BitVec 64)) (w : World) (e : Ending) (w' : World) : Prop :=
  ∃ v, e = .returned (.tuple #[v, .bool (readOk ws)]) ∧ Below w.heap.size w w' ∧ Sch w' v (if readOk ws then readS ws else [])

theorem readOk_left {ws : List (BitVec 64)} {x : BitVec 64} (h : x ∈ ws) (hx : leftN x.toNat ≠ 0) : readOk ws = false := by
  unfold readOk
  rw [show ws.all (fun x => decide (leftN x.toNat = 0)) = false from by rw [List.all_eq_false]; exact ⟨x, h, by simpa using hx⟩, Bool.and_false]

set_option maxRecDepth 100000 in
set_option maxHeartbeats 4000000 in
theorem rread5_any (ws : List (BitVec 64)) (v : Value) (n : Nat) (w : World) (hw : Row w 1 v n (ws.map U)) (h9 : n ≤ 1000) : Calls Tryd.prog 48 #[v] w (RReadP ws w) := by
  obtain ⟨iF, hiF, hzF, hsF, hbF⟩ := info_parts infoF
  obtain ⟨iS, hiS, hzS, hsS, hbS⟩ := info_parts infoFs
  have hwl : ws.length = n := by have := hw.len; simpa using this
  obtain ⟨a, cap, rfl, hnc, hcm, hcell⟩ := hw.open
  have Hwl := hid hwl
  clear hwl
  go_enter Tryd.func48, Tryd.ntmps48
  go_wp2_with fail
  go_loopw [4, 5] (fun sv i wr => ∃ k : Nat, k ≤ n ∧ i = .int .i64 k ∧ Below w.heap.size w wr ∧ OwnSch wr w.heap.size sv k (readS (ws.take k)) ∧ (ws.take k).all (fun x => decide (leftN x.toNat = 0)) = true) (fun _ i _ => n - (intOf i).toNat)
  case atStart => exact ⟨0, Nat.zero_le _, rfl, Below.refl _ _, ⟨[], own_nil _ _ _ _, fun i l h => by simp [readS] at h⟩, rfl⟩
  case round =>
    obtain ⟨k, hk, rfl, hbl, hown, hall⟩ := hrel
    have Hall := hid hall
    clear hall
    by_cases hlt : k < n
    · obtain ⟨b, off, rfl, hbb, hc1⟩ := hcell (by omega)
      have hxk : ws[k]? = some (ws.getD k 0#64) := by
        rw [List.getD_eq_getElem?_getD, List.getElem?_eq_getElem (by rw [Hwl.out]; exact hlt)]; rfl
      have ck : wr.cell? ⟨b, off + k, none⟩ = some (U (ws.getD k 0#64)) := by rw [hbl.cell (p := ⟨b, off + k, none⟩) hbb, hc1 k (by omega), List.getElem?_map, hxk]; rfl
      generalize ws.getD k 0#64 = x at *
      have Hxk := hid hxk
      clear hxk hc1
      have hX : x.toNat / 8 < 2305843009213693952 := by have := x.isLt; omega
      have hm8 : x.toNat % 8 < 8 := by omega
      have hx8 : x % 8#64 = BitVec.ofNat 64 (x.toNat % 8) := by
        apply BitVec.eq_of_toNat_eq; rw [BitVec.toNat_umod, BitVec.toNat_ofNat]; simp; omega
      have hx3 : x / 8#64 = BitVec.ofNat 64 (x.toNat / 8) := by
        apply BitVec.eq_of_toNat_eq; rw [BitVec.toNat_udiv, BitVec.toNat_ofNat]; simp; omega
      have hmi : (BitVec.ofNat 64 (x.toNat % 8)).toInt = ((x.toNat % 8 : Nat) : Int) := by rw [BitVec.toInt_eq_toNat_of_lt (by rw [BitVec.toNat_ofNat]; omega), BitVec.toNat_ofNat, Nat.mod_eq_of_lt (by omega)]
      have Hfin := hid (show readN x.toNat = unN (x.toNat % 8) (x.toNat / 8) from rfl)
      have Hleft := hid (show leftN x.toNat = x.toNat / 8 / 64 ^ (x.toNat % 8) from rfl)
      generalize x.toNat % 8 = m at *
      generalize x.toNat / 8 = X at *
      have hul := unN_length m X
      have hb0 := hbl.size
      go_wp2_with fail
      obtain ⟨wo, rfl⟩ : ∃ wo : World, wo = wr := ⟨_, rfl⟩
      clear ck hx8 hx3 hmi
      go_loopw [7, 8, 9] (fun y fv j wz => ∃ i : Nat, i ≤ m ∧ j = .int .i64 i ∧ y = U (BitVec.ofNat 64 (X / 64 ^ i)) ∧ wz.ownsRow wo.heap.size 30 2 fv i (fldsC ((unN m X).take i)) ∧ wo.grownBy wz none) (fun _ _ j _ => m - (intOf j).toNat)
      case atStart => exact ⟨0, Nat.zero_le _, rfl, by simp, by simpa [fldsC] using own_nil _ _ _ _, World.grownBy.refl _ _⟩
      case round =>
        obtain ⟨i, hi, rfl, rfl, ho, hgz⟩ := hrel
        by_cases hil : i < m
        · obtain ⟨af, cf, rfl⟩ := own_shape ho
          have hY : X / 64 ^ i < 2305843009213693952 := Nat.lt_of_le_of_lt (Nat.div_le_self _ _) hX
          have Hget := hid (unN_get m X i hil)
          have HY := hid (show X / 64 ^ (i + 1) = X / 64 ^ i / 64 by rw [Nat.pow_succ, Nat.div_div_eq_div_mul])
          generalize X / 64 ^ i = Y at *
          have hyn : (BitVec.ofNat 64 Y).toNat = Y := by rw [BitVec.toNat_ofNat]; omega
          have hy1 : BitVec.ofNat 64 Y % 8#64 = BitVec.ofNat 64 (Y % 8) := by
            apply BitVec.eq_of_toNat_eq; rw [BitVec.toNat_umod, hyn, BitVec.toNat_ofNat]; simp; omega
          have hy3 : BitVec.ofNat 64 Y / 8#64 = BitVec.ofNat 64 (Y / 8) := by
            apply BitVec.eq_of_toNat_eq; rw [BitVec.toNat_udiv, hyn, BitVec.toNat_ofNat]; simp; omega
          have hy6 : BitVec.ofNat 64 Y / 64#64 = BitVec.ofNat 64 (Y / 64) := by
            apply BitVec.eq_of_toNat_eq; rw [BitVec.toNat_udiv, hyn, BitVec.toNat_ofNat]; simp; omega
          have hy2 : BitVec.ofNat 64 (Y / 8) % 8#64 = BitVec.ofNat 64 (Y / 8 % 8) := by
            apply BitVec.eq_of_toNat_eq; rw [BitVec.toNat_umod, BitVec.toNat_ofNat, BitVec.toNat_ofNat]; simp; omega
          have hi1 : (BitVec.ofNat 64 (Y % 8)).toInt = ((Y % 8 : Nat) : Int) := by rw [BitVec.toInt_eq_toNat_of_lt (by rw [BitVec.toNat_ofNat]; omega), BitVec.toNat_ofNat, Nat.mod_eq_of_lt (show Y % 8 < 2 ^ 64 by omega)]
          have hi2 : (BitVec.ofNat 64 (Y / 8 % 8)).toInt = ((Y / 8 % 8 : Nat) : Int) := by rw [BitVec.toInt_eq_toNat_of_lt (by rw [BitVec.toNat_ofNat]; omega), BitVec.toNat_ofNat, Nat.mod_eq_of_lt (show Y / 8 % 8 < 2 ^ 64 by omega)]
          generalize Y % 8 = ka at *
          generalize Y / 8 % 8 = kb at *
          have hsz := hgz.size
          have hb4 := below_alloc wr (.cells #[.int .i64 (ka : Int), .int .i64 (kb : Int)] 30)
          have ho5 := own_beneath ho hb4
          have hg5 := grown_below hgz hb4
          have Hf := hid (show fldsC ((unN m X).take (i + 1)) = fldsC ((unN m X).take i) ++ [.int .i64 (ka : Int), .int .i64 (kb : Int)] by
            rw [List.take_add_one, Hget.out, fldsC_append]; rfl)
          clear ho hgz hb4 hyn
          generalize fldsC ((unN m X).take i) = fs at *
          go_wp2_with (at_builtin; go_must (refine wpList_append_own _ rfl (.tmp 33) (.tmp 42) 28 rfl wo.heap.size 30 iF _ 2 16 Tryd.underlying28 hiF hzF hsF hbF rfl (by omega) _ i _ rfl ho5 ⟨wr.heap.size, 0, none⟩ 1 1 [.int .i64 (ka : Int), .int .i64 (kb : Int)] rfl rfl (news_at _ _ (by simp) #[.int .i64 (ka : Int), .int .i64 (kb : Int)] 30) (by simp [Value.oneCell']) (by unfold maxLen; omega) (by omega) hg5.size ?_); intro v6 w6 ho8 hg8 _)
          have hg9 : wo.grownBy w6 none := grown_more hg5 hg8 (fun g e => .inl (own_blk ho5 e).2)
          clear ho5 hg5 hg8
          go_roundw
          case rel => exact ⟨i + 1, by omega, by go_num, by rw [HY.out], by rw [Hf.out]; exact ho8, hg9⟩
          case measure => simp [intOf] <;> omega
        · obtain rfl : i = m := by omega
          rw [← Hleft.out]
          have hLb : leftN x.toNat < 18446744073709551616 := by rw [Hleft.out]; exact Nat.lt_of_le_of_lt (Nat.div_le_self _ _) (by omega)
          rw [show (unN i X).take i = unN i X from List.take_of_length_le (by rw [hul]; exact Nat.le_refl _)] at ho
          by_cases hleft : leftN x.toNat = 0
          · have hLL := hid hleft
            rw [hleft]
            clear hleft hLb
            have hSl : (readS (ws.take k)).length = k := by rw [readS, List.length_map, List.length_take, Hwl.out]; omega
            have hbl6 : Below w.heap.size w wr := hbl.grown hgz hbl.size (fun g hg => by cases hg)
            obtain ⟨vs, ho1, ho2⟩ := hown
            obtain ⟨a5, c5, rfl⟩ := own_shape ho1
            obtain ⟨af, cf, rfl⟩ := own_shape ho
            have hb7 := below_alloc wr (.cells #[.slice af i cf] 28)
            have ho7 := own_beneath (own_keep ho1 (fun g hg => hgz.block g (own_blk ho1 hg).1.lt (by simp))) hb7
            have hf7 := own_beneath ho hb7
            have hbl7 := hbl6.trans (hb7.mono hbl6.size)
            have Ho27 := hid (show ∀ (j : Nat) (l : Fields), (readS (ws.take k))[j]? = some l → ∃ u, vs[j]? = some u ∧ (wr.alloc (.cells #[.slice af i cf] 28)).ownsRow w.heap.size 30 2 u l.length (fldsC l) from fun j l hl => by
              obtain ⟨u, hu, h⟩ := ho2 j l hl
              exact ⟨u, hu, own_beneath (own_keep h (fun g hg => hgz.block g (own_blk h hg).1.lt (by simp))) hb7⟩)
            have Hnext := hid (show readS (ws.take (k + 1)) = readS (ws.take k) ++ [unN i X] by
              rw [readS, readS, List.take_add_one, Hxk.out, List.map_append]
              simp [Hfin.out])
            have Hall2 := hid (show (ws.take (k + 1)).all (fun x => decide (leftN x.toNat = 0)) = true by
              rw [all_take_succ _ _ _ _ Hxk.out, Hall.out, hLL.out]; rfl)
            have HSl := hid hSl
            have hvl : vs.length = k := by have := ho1.1; simpa using this
            have Hvl := hid hvl
            have hul2 := hid hul
            clear ho ho1 ho2 hgz hbl hbl6 hb7 hSl hvl hul hm8
            generalize readS (ws.take k) = SS at *
            generalize unN i X = F at *
            go_wp2_with (at_builtin; go_must (refine wpList_append_own _ rfl (.tmp 48) (.tmp 50) 26 rfl w.heap.size 28 iS _ 1 24 Tryd.underlying26 hiS hzS hsS hbS rfl (by omega) _ k _ rfl ho7 ⟨wr.heap.size, 0, none⟩ 1 1 [.slice af i cf] rfl rfl (news_at _ _ rfl #[.slice af i cf] 28) (by simp [Value.oneCell']) (by unfold maxLen; omega) (by omega) hbl7.size ?_); intro v6 w6 ho8 hg8 _)
            have hb8 := below_own hbl7 ho7 (Nat.le_refl _) hg8 hbl7.size
            have hrel2 := hid (show OwnSch w6 w.heap.size v6 (k + 1) (readS (ws.take (k + 1))) from by
              rw [Hnext.out]
              refine ⟨vs ++ [.slice af i cf], ho8, fun j l' hl' => ?_⟩
              by_cases hj : j < SS.length
              · rw [List.getElem?_append_left hj] at hl'
                obtain ⟨u, hu, h⟩ := Ho27.out j l' hl'
                exact ⟨u, by rw [List.getElem?_append_left (List.getElem?_eq_some_iff.1 hu).1]; exact hu, own_row h ho7 hg8 (by decide)⟩
              · have hj2 : j = SS.length := by
                  have := (List.getElem?_eq_some_iff.1 hl').1
                  simp at this; omega
                subst hj2
                rw [List.getElem?_append_right (Nat.le_refl _)] at hl'
                simp only [Nat.sub_self, List.getElem?_cons_zero] at hl'
                obtain rfl := Option.some.inj hl'
                refine ⟨.slice af i cf, by rw [HSl.out, ← Hvl.out, List.getElem?_append_right (Nat.le_refl _)]; simp, ?_⟩
                rw [hul2.out]
                exact own_base (own_row hf7 ho7 hg8 (by decide)) hb0)
            clear ho7 hf7 ho8 hg8
            go_roundw
            case rel => exact ⟨k + 1, by omega, by go_num, hb8, hrel2.out, Hall2.out⟩
            case measure => simp [intOf] <;> omega
          · have Hend := hid (show readOk ws = false from readOk_left (List.mem_of_getElem? Hxk.out) hleft)
            have hne : (BitVec.ofNat 64 (leftN x.toNat) != 0#64) = true := by
              rw [bne_iff_ne]
              intro e
              have := congrArg BitVec.toNat e
              rw [BitVec.toNat_ofNat, Nat.mod_eq_of_lt (by omega)] at this
              exact hleft this
            have hbl6 : Below w.heap.size w wr := hbl.grown hgz hbl.size (fun g hg => by cases hg)
            clear hleft hLb hgz ho hown
            go_wp2_with fail
            go_returns
            exact ⟨_, by rw [Hend.out]; rfl, hbl6, by rw [Hend.out]; exact Sch.nil _⟩
    · obtain rfl : k = n := by omega
      rw [show ws.take k = ws from List.take_of_length_le (by rw [Hwl.out]; exact Nat.le_refl _)] at hown
      have hall := Hall.out
      rw [show ws.take k = ws from List.take_of_length_le (by rw [Hwl.out]; exact Nat.le_refl _)] at hall
      have hSl : (readS ws).length = k := by rw [readS, List.length_map]; exact Hwl.out
      have hs := hown.sch hSl.symm
      have hright := rright_any (readS ws) u4 wr hs
      have hok : readOk ws = rightB (readS ws) := by rw [readOk, hall, Bool.and_true]
      have Hs := hid hs
      clear hown hcell hSl hs hall
      cases hrb : rightB (readS ws)
      · rw [hrb] at hright hok
        have Hend := hid hok
        clear hok hrb
        go_wp2_with ((refine hright.mono ?_); rintro r1 w1 ⟨rfl, hb1⟩)
        go_returns
        exact ⟨_, by rw [Hend.out]; rfl, via (w := w) hbl hb1, by rw [Hend.out]; exact Sch.nil _⟩
      · rw [hrb] at hright hok
        have Hend := hid hok
        clear hok hrb
        go_wp2_with ((refine hright.mono ?_); rintro r1 w1 ⟨rfl, hb1⟩)
        go_returns
        exact ⟨_, by rw [Hend.out]; rfl, via (w := w) hbl hb1, by rw [Hend.out]; exact Hs.out.below hb1 (Nat.le_refl _)⟩
end Go.Proofs.YtbhnbjaafejcjaaDoor


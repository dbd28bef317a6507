import Derived.Test.YtbohkamhcdnmbaaB12
import Derived.Test.YtbohkamhcdnmbaaPl5
set_option linter.unusedVariables false
namespace Go.Proofs.Ytbohkamhcdnmbaa
open Go.RowKit

theorem owns_below {w w' : World} {B : Nat} {e : TypeId} {sz n : Nat} {v : Value} {xs : List Value} (h : w.ownsRow B e sz v n xs) (hb : Below w.heap.size w w') : w'.ownsRow B e sz v n xs := by
  refine ⟨h.1, ?_⟩
  rcases h.2 with h0 | ⟨g, cap, cur, hv, hg, hh, r⟩
  · exact .inl h0
  · have hlt : g < w.heap.size := by
      rcases Nat.lt_or_ge g w.heap.size with hl | hl
      · exact hl
      · rw [Array.getElem?_eq_none hl] at hh; cases hh
    exact .inr ⟨g, cap, cur, hv, hg, by rw [hb.block g hlt]; exact hh, r⟩

theorem mk_back (s : ByteArray) : (⟨s.data.toList.toArray⟩ : ByteArray) = s := rfl

set_option maxRecDepth 100000 in
set_option maxHeartbeats 1000000 in
theorem law_BitsBack (s : ByteArray) (bit : Int) (w : World) (hs : s.size ≤ maxLen) (hbit : -9223372036854775808 ≤ bit ∧ bit ≤ 9223372036854775807) :
    Calls Try.prog 9 #[.string s, .int .i64 bit] w fun e w' => e = .returned (.bool true) ∧ Below w.heap.size w w' := by
  obtain ⟨i0, hi, hz0, hz1, hz2⟩ := info_parts info22
  go_enter Try.func9, Try.ntmps9
  go_wp2_with fail
  refine (awake_any _).mono ?_
  rintro e w1 ⟨rfl, hb⟩
  go_wp2_with fail
  refine (short_any _ _ hs).mono ?_
  rintro e w' ⟨rfl, rfl⟩
  have hsz := shortV_size s
  generalize shortV s = s1 at *
  go_wp2_with fail
  refine (words_own s1 _ (by omega)).mono ?_
  rintro e w2 ⟨v, rfl, hb2, hv, hown⟩
  obtain ⟨c, hc⟩ := Int.eq_ofNat_of_zero_le (count_le s1.size (by omega)).1
  have hc8 := (count_le s1.size (by omega)).2
  have hcg := count_ge s1.size
  rw [hc] at hv hown hc8 hcg
  rw [Int.toNat_natCast] at hv hown
  subst hv
  have hwl : (wordsV s1.data.toList).length = c := by rw [wordsV_length]; simp [hc]
  have hB := hb.trans (hb2.mono hb.size)
  have Hb := hid hB
  have hr := Row.of_owns hown
  have Hown := hid hown
  have Hc := hid hc
  obtain ⟨t1, t2⟩ := words_text s1.data.toList
  have tm := words_more s1.data.toList
  have tl := words_less s1.data.toList
  have hzz : s1.data.toList.length = s1.size := by simp
  rw [hzz] at t1 t2 tm tl
  have T1 := hid t1
  have T2 := hid t2
  have TM := hid tm
  have TL := hid tl
  have Hwl := hid hwl
  have hspo := hid (words_spoilt s1.data.toList c)
  generalize hws : wordsV s1.data.toList = ws at *
  have hgw : w.heap.size ≤ w1.heap.size := hb.size
  generalize w1.heap.size = g at *
  clear hb hb2 hB hown hc t1 t2 tm tl hzz hwl hws
  go_wp2_with fail
  refine (text_any ws _ _ _ (by rw [Hwl.out]; exact hr) (by omega) (by rw [Hwl.out]; omega)).mono ?_
  rw [T1.out, T2.out, mk_back]
  rintro e W3 ⟨rfl, hb3⟩
  have hr3 := hr.below hb3 (Nat.le_refl _)
  have Hb3 := hid (Hb.out.trans (hb3.mono Hb.out.size))
  have Hown3 := hid (owns_below Hown.out hb3)
  clear hb3 hr Hown Hb
  have hownA : (W3.alloc (.cells #[] 22)).ownsRow W3.heap.size 22 1 (.slice (some ⟨W3.heap.size, 0, none⟩) 0 0) 0 [] := World.ownsRow_lit W3 #[] 0 (Nat.le_refl _) (Nat.zero_le _) rfl
  have hcs : ∀ j u, (ws.map U)[j]? = some u → (W3.alloc (.cells #[] 22)).cell? ((⟨g, 0, none⟩ : Addr).add j) = some u := fun j u hu => by
    have hj : j < c := by have := (List.getElem?_eq_some_iff.1 hu).1; rw [List.length_map, Hwl.out] at this; exact this
    obtain ⟨hlt, hcell⟩ := hr3.cells (by omega)
    rw [Addr.add_lit, Below.cell (B := W3.heap.size) (w := W3) ((Below.refl _ _).alloc (Nat.le_refl _) _) hlt, hcell j (by omega)]
    exact hu
  go_wp2_with (at_builtin; refine wpList_append_own _ rfl (.tmp 30) (.tmp 31) 37 rfl W3.heap.size 22 i0 (.int .u64 0) 1 8 Try.underlying37 hi hz0 hz1 hz2 rfl (by decide) _ _ _ rfl hownA ⟨g, 0, none⟩ c c (ws.map U) rfl (by rw [List.length_map, Hwl.out]; omega) hcs (by intro u hu; obtain ⟨x, _, rfl⟩ := List.mem_map.1 hu; rfl) (by unfold maxLen; omega) (by omega) (by simp) ?_)
  intro v5 W5 hown5 hg5 _
  replace hown5 : W5.ownsRow W3.heap.size 22 1 v5 c (ws.map U) := by simpa using hown5
  have hb5 : Below W3.heap.size W3 W5 := ((Below.refl _ _).alloc (Nat.le_refl _) _).grown hg5 (by simp) (by intro k h; cases h; exact Nat.le_refl _)
  clear hownA hcs hg5
  go_wp2_with (at_builtin; refine wpList_append_own _ rfl (.tmp 32) (.tmp 33) 37 rfl W3.heap.size 22 i0 (.int .u64 0) 1 8 Try.underlying37 hi hz0 hz1 hz2 rfl (by decide) _ _ _ rfl (hown5.alloc _) ⟨W5.heap.size, 0, none⟩ 1 1 [U 0#64] rfl rfl (cell_one_new _ _ _) (by intro u hu; simp at hu; subst hu; rfl) (by unfold maxLen; omega) (by omega) (by have := hb5.size; simp; omega) ?_)
  intro v6 W6 hown6 hg6 _
  have hb6 : Below W3.heap.size W3 W6 := own_below hb5 hb5.size hown5 hg6
  have hown7 : W6.ownsRow W3.heap.size 22 1 v6 (ws ++ [0#64]).length ((ws ++ [0#64]).map U) := by
    rw [List.map_append, List.length_append, Hwl.out]; exact hown6
  have hr3' := hr3.below hb6 (Nat.le_refl _)
  have Hb6 := hid (Hb3.out.trans (hb6.mono Hb3.out.size))
  have Hown6 := hid (owns_below Hown3.out hb6)
  clear hown5 hb5 hg6 hown6 hb6 hr3 Hb3 Hown3
  have hr6 := Row.of_owns hown7
  clear hown7
  go_wp2_with fail
  refine (text_any (ws ++ [0#64]) _ _ _ hr6 (by omega) (by rw [List.length_append, Hwl.out]; simp; omega)).mono ?_
  rw [TM.out]
  rintro e W7 ⟨rfl, hb7⟩
  have hr7 := hr3'.below hb7 (Nat.le_refl _)
  have Hb7 := hid (Hb6.out.trans (hb7.mono Hb6.out.size))
  have Hown7 := hid (owns_below Hown6.out hb7)
  clear hr6 hr3' Hb6 Hown6 hb7
  go_wp2_with fail
  refine (text_any ws _ _ _ (by rw [Hwl.out]; exact hr7) (by omega) (by rw [Hwl.out]; omega)).mono ?_
  rw [TL.out]
  rintro e W8 ⟨rfl, hb8⟩
  have hr8 := hr7.below hb8 (Nat.le_refl _)
  have Hb8 := hid (Hb7.out.trans (hb8.mono Hb7.out.size))
  have Hown8 := hid (owns_below Hown7.out hb8)
  clear hr7 Hb7 Hown7 hb8
  go_wp2_with fail
  refine (count_any _ _ (by omega)).mono ?_
  rintro e w' ⟨rfl, rfl⟩
  rw [Hc.out]
  by_cases hfree : 8 * c - s1.size = 0
  · have hf0 : (8 * (c : Int) - s1.size == 0) = true := by rw [beq_iff_eq]; omega
    go_wp2
    go_ret
    exact ⟨rfl, Hb8.out⟩
  · obtain ⟨f, hfe⟩ := Int.eq_ofNat_of_zero_le (show 0 ≤ (c : Int) * 8 - s1.size by omega)
    have hfe2 : 8 * (c : Int) - s1.size = f := by omega
    have hf1 : 1 ≤ f := by omega
    have hf7 : f ≤ 7 := by omega
    have hf0 : ((f : Int) == 0) = false := by rw [beq_eq_false_iff_ne]; omega
    have ht := tmod_bd bit (8 * f) (by omega)
    have hc0 : 0 < c := by omega
    have hfs : 8 * c - s1.size = f := by omega
    have hcell : W8.cell? ⟨g, c - 1, none⟩ = some (U (ws.getD (c - 1) 0#64)) := by
      have := (hr8.cells (by omega)).2 (c - 1) (by omega)
      rw [Nat.zero_add] at this
      have hlt : c - 1 < ws.length := by rw [Hwl.out]; omega
      rw [this]; simp [List.getD, hlt]
    have hfr := Hown8.out.frozenAt (c - 1)
    obtain ⟨k, hk⟩ := Int.eq_ofNat_of_zero_le (Int.emod_nonneg (bit.tmod (8 * f)) (show 8 * (f : Int) ≠ 0 by omega))
    have hk8 : k < 8 * f := by
      have := Int.emod_lt_of_pos (bit.tmod (8 * f)) (show (0 : Int) < 8 * f by omega)
      omega
    have he : ((64 - 8 * (f : Int) + k) % 18446744073709551616).toNat = 64 - 8 * f + k := by omega
    have hsp := hspo.out k (by simpa using Hc.out) (by simp; omega)
    have hzz : s1.data.toList.length = s1.size := by simp
    rw [hzz, hfs] at hsp
    have hst := (Hown8.out.stored (c - 1) (U (ws.getD (c - 1) 0#64 ||| 1#64 <<< (64 - 8 * f + k)))).1
    rw [← List.map_set] at hst
    have hr9 := Row.of_owns hst
    have Hb9 := hid (Hb8.out.setCell (p := ⟨g, c - 1, none⟩) hgw (U (ws.getD (c - 1) 0#64 ||| 1#64 <<< (64 - 8 * f + k))))
    have hl9 : (ws.set (c - 1) (ws.getD (c - 1) 0#64 ||| 1#64 <<< (64 - 8 * f + k))).length = c := by rw [List.length_set, Hwl.out]
    generalize hx : ws.getD (c - 1) 0#64 = x at *
    generalize ws.set (c - 1) (x ||| 1#64 <<< (64 - 8 * f + k)) = ws9 at *
    have Hsp := hid hsp
    have Hl9 := hid hl9
    clear hfree hfs hx hr8 hspo hsp hst hzz hl9 Hown8
    go_wp2_with fail
    refine (text_any ws9 _ _ _ (by rw [Hl9.out]; exact hr9) (by omega) (by rw [Hl9.out]; omega)).mono ?_
    rw [Hsp.out]
    rintro e W10 ⟨rfl, hb10⟩
    have Hb10 := hid (Hb9.out.trans (hb10.mono Hb9.out.size))
    clear hb10 Hb9 hr9
    go_wp2
    go_ret
    exact ⟨rfl, Hb10.out⟩
end Go.Proofs.Ytbohkamhcdnmbaa

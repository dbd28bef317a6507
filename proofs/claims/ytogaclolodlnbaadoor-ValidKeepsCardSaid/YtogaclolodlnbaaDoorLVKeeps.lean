/- ValidKeeps: of what is right, each change of a Num leaves it right; a longer row is not. -/
import Derived.Test.YtogaclolodlnbaaDoorLVCut
import Derived.Test.YtogaclolodlnbaaDoorWord
import Derived.Deep.AppendLies
set_option linter.unusedVariables false
set_option linter.unusedSimpArgs false
namespace Go.Proofs.YtogaclolodlnbaaDoor
section SLVKeeps
open Go.RowKit

set_option maxRecDepth 100000 in
set_option maxHeartbeats 8000000 in
theorem vkeeps_walk (u v : Value) (T : Int) (tl vl : List Int) (x : BitVec 64) (w : World) (hl : LaidE w) (hu : Row w 1 u tl.length (tl.map (Value.int .i64))) (hv : Row w 1 v vl.length (vl.map (Value.int .i64)))
    (hub : ∀ z ∈ tl, -9223372036854775808 ≤ z ∧ z ≤ 9223372036854775807) (hvb : ∀ z ∈ vl, -9223372036854775808 ≤ z ∧ z ≤ 9223372036854775807) (hT : -9223372036854775808 ≤ T ∧ T ≤ 9223372036854775807) :
    Calls Tryd.prog 12 #[.agg #[u, v, .int .i64 T], U x] w fun r w' => r = .returned (.bool true) ∧ Below w.heap.size w w' := by
  obtain ⟨iU, hiU, hzU, hsU, hbU⟩ := info_parts (show (Tryd.prog.info? 38).map (fun i => (i.zero, i.size, i.bytes)) = some (some (.int .u64 0), 1, 8) by kernel_rfl)
  obtain ⟨au, cu, hue, -⟩ := hu.open
  obtain ⟨av, cv, hve, -⟩ := hv.open
  obtain ⟨w1, hw1, hb1, hlt1, hbox1⟩ := boxed w #[u, v, .int .i64 T] 24
  have q0 : w1.cell? ⟨w.heap.size, 0, none⟩ = some u := hbox1 0
  have q1 : w1.cell? ⟨w.heap.size, 1, none⟩ = some v := hbox1 1
  have q2 : w1.cell? ⟨w.heap.size, 2, none⟩ = some (.int .i64 T) := hbox1 2
  have hl1 := LaidE.below hl hb1 (LaidE.pos hl)
  have hspec := hid fun W (hW : Below w.heap.size w W) => spec8_any 2 3 (by omega) rfl u v T tl vl W (hu.below hW (Nat.le_refl _)) (hv.below hW (Nat.le_refl _)) hub hvb hT
  subst hue hve
  have HLaid := hid hl
  clear hu hv hub hvb hbox1 hl
  go_enter Tryd.func12, Tryd.ntmps12
  go_wp2_with fail
  ((refine (awake08 _ hl1).mono ?_); rintro r2 w2 ⟨rfl, hb2⟩)
  replace q0 := (hb2.cell hlt1).trans q0
  replace q1 := (hb2.cell hlt1).trans q1
  replace q2 := (hb2.cell hlt1).trans q2
  have hb12 := via hb1 hb2
  clear hw1
  go_wp2_with fail
  ((refine (hspec.out _ hb12).mono ?_); rintro r3 w3 ⟨sv, wv, s, ws, rfl, hb3, hs, hr, hrow, hmsg⟩)
  have hb13 := via hb12 hb3
  have hmsg2 := msg_two hr hmsg
  have hl3 := LaidE.below HLaid.out hb13 (LaidE.pos HLaid.out)
  clear hspec q0 q1 q2 hb2 hb3 hl1 hb12 hb1
  have Hb13 := hid hb13
  rcases hmsg2 with h0 | h2
  · have hct := hid (checkTop_any hl3 hs hrow (allW_long hr (xs := ws) (.inr h0)))
    obtain ⟨wa, wc, rfl, -⟩ := hrow.open
    rw [h0] at hct ⊢
    clear hmsg hs hrow hr
    go_wp2_with fail
    ((refine (hct.out w3 (Below.refl _ _)).1.mono ?_); rintro r4 w4 ⟨u4, rfl, -, hb4, ht4⟩)
    go_wp2_with fail
    ((refine ht4.mono ?_); rintro r5 w5 ⟨rfl, hb5, -⟩)
    go_wp2_with fail
    go_returns
    exact ⟨rfl, via Hb13.out hb5⟩
  rcases hmsg with rfl | ⟨d, t, X, ht, hcode, hws, h200⟩
  · simp at h2
  obtain ⟨hm1, hm2, -⟩ := build_lie hcode
  rw [← hws] at hm1 hm2
  have hs8 : s.length ≤ 8 := by unfold rightB at hr; simp only [Bool.and_eq_true, decide_eq_true_eq] at hr; exact hr.1.2
  have hpt := refV_parts (1 + wordsT (d + 1) X) t (by omega) (by omega)
  rw [← hm1] at hpt hm2
  have hF : (typeL s t).length + 1 ≤ ws.length := by
    have h1 := (code_struct hcode).2.2.2.2.1
    have hw : wordsT (d + 1) X = (Node.kids X).length + belowT (d + 1) X := words_below (d + 1) X
    omega
  obtain ⟨F, hFe⟩ : ∃ F, F = (typeL s t).length := ⟨_, rfl⟩
  rw [← hFe] at hF
  have hkeep := hid fun (i : Nat) (hi : i < F) (y : BitVec 64) (hy : (fieldP s t i).1 = 1 ∨ y = 0#64) => show (allW s (ws.set (1 + i) y)).1 = 0 from by
    have := allW_keeps hr ht hcode (by rw [← hws]; exact h200) i (by rw [← hFe]; exact hi) y hy
    rw [← hws] at this; exact this
  obtain ⟨lt, hlt⟩ := get_lt ht
  have htl := typeL_at hlt
  obtain ⟨bw, offw, cap, rfl, hcap1, hcap2, hbw, hcw⟩ := hrow.cons (by omega)
  obtain ⟨L, hL⟩ : ∃ L, L = ws.length := ⟨_, rfl⟩
  obtain ⟨sa, sc, rfl, hs2, hs3, -⟩ := hs.shape
  obtain ⟨sb, so, la, lc, rfl, hsb, hsc, hflds, hfm1, hfm2, hfm3⟩ := hs.at_ hlt
  rw [htl] at hFe
  have HL := hid hL
  have Hlo := hid (show loN ((ws ++ [x]).getD 0 0#64) = ws.length from by rw [List.getD_eq_getElem?_getD, List.getElem?_append_left (by omega), hm2]; exact hpt.1)
  have Hrow := hid hrow
  have Hs := hid hs
  have Hr := hid hr
  have Hflds := hid hflds
  have HFp := hid fun (i : Nat) (p : Int × Int) (hp : lt[i]? = some p) => show fieldP s t i = p from fieldP_at (by rw [htl]; exact hp)
  rw [← hFe] at hsc hfm1 hfm2 hflds
  have hx0 := hcw 0 (by omega)
  rw [List.getElem?_map, hm2, Nat.add_zero] at hx0
  simp only [Option.map_some] at hx0
  rw [← hL] at h2 h200 hcap1 hcw hF hpt hm2 hx0 ⊢
  have hhi : (refV (L : Int) t >>> 32).toInt = (t : Int) := by
    rw [hi_shr]; show ((hiN (refV (L : Int) t) : Nat) : Int) = t; rw [hpt.2]
  have htlt : ((t : Int) ≥ (s.length : Int)) = False := by simp; omega
  have Hxl := hid (show (ws.map U).length = L * 1 by rw [List.length_map, ← hL]; omega)
  have Hone := hid fun (u : Value) (hu : u ∈ ws.map U) => show u.oneCell' = true from by obtain ⟨x, _, rfl⟩ := List.mem_map.1 hu; rfl
  have Hcw := hid hcw
  have HFe := hid hFe
  have Hht := hid ht
  have htl' : (t : Int) < (s.length : Int) := Int.ofNat_lt.2 ht
  have hLpos : (0 : Int) < (L : Int) := Int.ofNat_lt.2 (Nat.lt_of_lt_of_le (Nat.succ_pos 1) h2)
  have hLz : ((L : Int) == 0) = false := by rw [beq_eq_false_iff_ne]; exact Int.ne_of_gt hLpos
  obtain ⟨S, hS⟩ : ∃ S, S = s.length := ⟨_, rfl⟩
  have HS := hid hS
  rw [← hS] at htl' htlt hs2 hs8 ⊢
  generalize hQ : refV (L : Int) t = Q0 at *
  have HQ := hid hQ
  clear hL hws hm1 hcode hr hs hrow hcw hflds hFe hlt htl hm2 hQ hpt hS hs3 ht hb13
  go_wp2_with fail
  go_loopw [9] (fun iv wr => ∃ i : Nat, i ≤ F ∧ iv = .int .i64 i ∧ Below w3.heap.size w3 wr) (fun iv _ => F - (intOf iv).toNat)
  case atStart => exact ⟨0, by omega, rfl, Below.refl _ _⟩
  case round =>
    obtain ⟨i, hiF, rfl, hbl⟩ := hrel
    have sc0 := (hbl.cell (p := ⟨sb, so + t, none⟩) hsb).trans hsc
    have hsl : sb < wr.heap.size := Nat.lt_of_lt_of_le hsb hbl.size
    have hnews := hid fun (j : Nat) (u : Value) (e : (ws.map U)[j]? = some u) => show (wr.alloc (.cells #[] 38)).cell? ((⟨bw, offw, none⟩ : Addr).add j) = some u from by
      have hj : j < L := by have := (List.getElem?_eq_some_iff.1 e).1; rw [List.length_map, ← HL.out] at this; exact this
      rw [Addr.add_lit, ((below_alloc wr _).mono hbl.size).cell (p := ⟨bw, offw + j, none⟩) hbw, hbl.cell (p := ⟨bw, offw + j, none⟩) hbw, Hcw.out j (by omega), ← e]
    have Hbl := hid hbl
    have HsW := hid fun W (hW : Below wr.heap.size wr W) => Hs.out.below (hbl.trans (hW.mono hbl.size)) (Nat.le_refl _)
    have HlW := hid fun W (hW : Below wr.heap.size wr W) => LaidE.below hl3 (hbl.trans (hW.mono hbl.size)) (LaidE.pos hl3)
    have hcapi : (L : Int) ≤ (cap : Int) := by omega
    by_cases hlt : i < F
    · have hlt' : (i : Int) < (F : Int) := by omega
      obtain ⟨⟨kd, ty⟩, hp⟩ := get_lt (l := lt) (i := i) (by rw [← HFe.out]; exact hlt)
      obtain ⟨bl, offl, hal, hbbl, r0, -⟩ := Hflds.out.at_ hp
      subst hal
      simp only at r0
      have hfp := HFp.out i _ hp
      have fc := (hbl.cell (p := ⟨bl, offl + i * 2, none⟩) hbbl).trans r0
      have hfl : bl < wr.heap.size := Nat.lt_of_lt_of_le hbbl hbl.size
      have hwi : IntKind.i64.wrap (1 + (i : Int)) = ((1 + i : Nat) : Int) := by rw [Int.natCast_add]; exact IntWalk.i64_in _ (by omega)
      obtain ⟨o, ho⟩ : ∃ o, o = 1 + i := ⟨_, rfl⟩
      have hoL : o < L := by omega
      have hoL' : (o : Int) < (L : Int) := by omega
      rw [← ho] at hwi
      have Ho := hid ho
      clear hp r0 ho
      by_cases hk1 : kd = 1
      · obtain rfl : kd = 1 := hk1
        have hk := hkeep.out i hlt x (.inl (by rw [hfp]))
        rw [← Ho.out] at hk
        clear hfp
        go_wp2_with (at_builtin; refine wpList_append_lies (w := wr.alloc (.cells #[] 38)) rfl (.tmp 49) (.tmp 50) 28 rfl wr.heap.size 38 iU _ 1 8 Tryd.underlying28 hiU hzU hsU hbU rfl (by omega) (.slice (some ⟨wr.heap.size, 0, none⟩) 0 0) 0 [] rfl (World.ownsRow_made wr #[] 0 (Nat.le_refl _) (by simp [maxLen]) rfl) ⟨bw, offw, none⟩ L cap (ws.map U) rfl Hxl.out hnews.out Hone.out (by omega) (by unfold maxLen; omega) (by omega) (by simp) (wr.heap.size + 1) (by simp) ?_; intro g c' w4 h6 h7 h8 h9; rw [List.nil_append, Nat.zero_add] at h6; have hb34 := grown_drop h7; have h6h := hid h6; have Hb34 := hid hb34; have c0 := (hb34.cell (p := ⟨sb, so + t, none⟩) hsl).trans sc0; have c1 := (hb34.cell (p := ⟨bl, offl + i * 2, none⟩) hfl).trans fc; obtain ⟨yc, hyc⟩ := owns_has h6 o (by omega); have hyf := h6.frozenAt o; clear h6 h7 h8 h9)
        obtain ⟨w5, hw5⟩ : ∃ w5, w5 = w4.setCell ⟨g, o, none⟩ (U x) := ⟨_, rfl⟩
        have hset := own_setN h6h.out o (U x)
        have hgb := (own_blk h6h.out (g := g) rfl).2
        have hb5 : Below wr.heap.size wr w5 := by rw [hw5]; exact Hb34.out.setCell (p := ⟨g, o, none⟩) hgb _
        have hrow5 : Row w5 1 (.slice (some ⟨g, 0, none⟩) L c') (ws.set o x).length ((ws.set o x).map U) := by
          have h := Row.of_owns hset
          rw [hw5, List.length_set, List.map_set, ← HL.out]
          exact h
        obtain ⟨⟨e5, p5, n5⟩, hA5⟩ : ∃ r, allW s (ws.set o x) = r := ⟨_, rfl⟩
        rw [hA5] at hk
        have hk0 : e5 = 0 := hk
        subst hk0
        have hct := hid (checkTop_any (HlW.out _ hb5) (HsW.out _ hb5) hrow5 hA5 w5 (Below.refl _ _)).1
        rw [← HS.out] at hct
        have Hb5 := hid hb5
        have hw5' := hw5.symm
        clear hA5 hrow5 hset hb5 hk c0 c1 hyc hyf hw5
        rw [hw5']
        ((refine hct.out.mono ?_); rintro r5 w6 ⟨u6, rfl, hb6, -, ht6⟩)
        go_wp2_with fail
        ((refine ht6.mono ?_); rintro r6 w7 ⟨rfl, -, hb7⟩)
        go_wp2_with fail
        go_roundw
        case rel => exact ⟨i + 1, by omega, by go_num, Hbl.out.trans ((via (via Hb5.out hb6) hb7).mono Hbl.out.size)⟩
        case measure => simp [intOf]; omega
      · have hkd : (kd == 1) = false := by rw [beq_eq_false_iff_ne]; exact hk1
        have hk := hkeep.out i hlt 0#64 (.inr rfl)
        rw [← Ho.out] at hk
        clear hfp
        go_wp2_with (at_builtin; refine wpList_append_lies (w := wr.alloc (.cells #[] 38)) rfl (.tmp 49) (.tmp 50) 28 rfl wr.heap.size 38 iU _ 1 8 Tryd.underlying28 hiU hzU hsU hbU rfl (by omega) (.slice (some ⟨wr.heap.size, 0, none⟩) 0 0) 0 [] rfl (World.ownsRow_made wr #[] 0 (Nat.le_refl _) (by simp [maxLen]) rfl) ⟨bw, offw, none⟩ L cap (ws.map U) rfl Hxl.out hnews.out Hone.out (by omega) (by unfold maxLen; omega) (by omega) (by simp) (wr.heap.size + 1) (by simp) ?_; intro g c' w4 h6 h7 h8 h9; rw [List.nil_append, Nat.zero_add] at h6; have hb34 := grown_drop h7; have h6h := hid h6; have Hb34 := hid hb34; have c0 := (hb34.cell (p := ⟨sb, so + t, none⟩) hsl).trans sc0; have c1 := (hb34.cell (p := ⟨bl, offl + i * 2, none⟩) hfl).trans fc; obtain ⟨yc, hyc⟩ := owns_has h6 o (by omega); have hyf := h6.frozenAt o; clear h6 h7 h8 h9)
        obtain ⟨w5, hw5⟩ : ∃ w5, w5 = w4.setCell ⟨g, o, none⟩ (.int .u64 0) := ⟨_, rfl⟩
        have hset := own_setN h6h.out o (.int .u64 0)
        have hgb := (own_blk h6h.out (g := g) rfl).2
        have hb5 : Below wr.heap.size wr w5 := by rw [hw5]; exact Hb34.out.setCell (p := ⟨g, o, none⟩) hgb _
        have hrow5 : Row w5 1 (.slice (some ⟨g, 0, none⟩) L c') (ws.set o 0#64).length ((ws.set o 0#64).map U) := by
          have h := Row.of_owns hset
          rw [hw5, List.length_set, List.map_set, ← HL.out]
          exact h
        obtain ⟨⟨e5, p5, n5⟩, hA5⟩ : ∃ r, allW s (ws.set o 0#64) = r := ⟨_, rfl⟩
        rw [hA5] at hk
        have hk0 : e5 = 0 := hk
        subst hk0
        have hct := hid (checkTop_any (HlW.out _ hb5) (HsW.out _ hb5) hrow5 hA5 w5 (Below.refl _ _)).1
        rw [← HS.out] at hct
        have Hb5 := hid hb5
        have hw5' := hw5.symm
        clear hA5 hrow5 hset hb5 hk c0 c1 hyc hyf hw5
        rw [hw5']
        ((refine hct.out.mono ?_); rintro r5 w6 ⟨u6, rfl, hb6, -, ht6⟩)
        go_wp2_with fail
        ((refine ht6.mono ?_); rintro r6 w7 ⟨rfl, -, hb7⟩)
        go_wp2_with fail
        go_roundw
        case rel => exact ⟨i + 1, by omega, by go_num, Hbl.out.trans ((via (via Hb5.out hb6) hb7).mono Hbl.out.size)⟩
        case measure => simp [intOf]; omega
    · obtain rfl : i = F := by omega
      go_wp2_with (first | (at_builtin; refine wpList_append_lies (w := wr.alloc (.cells #[] 38)) rfl (.tmp 75) (.tmp 76) 28 rfl wr.heap.size 38 iU _ 1 8 Tryd.underlying28 hiU hzU hsU hbU rfl (by omega) (.slice (some ⟨wr.heap.size, 0, none⟩) 0 0) 0 [] rfl (World.ownsRow_made wr #[] 0 (Nat.le_refl _) (by simp [maxLen]) rfl) ⟨bw, offw, none⟩ L cap (ws.map U) rfl Hxl.out hnews.out Hone.out (by omega) (by unfold maxLen; omega) (by omega) (by simp) (wr.heap.size + 1) (by simp) ?_; intro g c' w4 h6 h7 h8 h9; rw [List.nil_append, Nat.zero_add] at h6; have hb34 := grown_drop h7; have h6h := hid h6; have Hb34 := hid hb34; have c0 := (hb34.cell (p := ⟨sb, so + t, none⟩) hsl).trans sc0; clear h6 h7 h8 h9) | (at_builtin; go_must (refine wpList_append_own _ rfl (.tmp 77) (.tmp 79) 28 rfl wr.heap.size 38 iU _ 1 8 Tryd.underlying28 hiU hzU hsU hbU rfl (by omega) _ L _ rfl (own_beneath h6h.out (below_alloc w4 (.cells #[U x] 38))) ⟨w4.heap.size, 0, none⟩ 1 1 [U x] rfl rfl (news_at _ _ rfl #[U x] 38) (by simp [Value.oneCell', U]) (by unfold maxLen; omega) (by omega) (Nat.le_trans Hb34.out.size (below_alloc w4 _).size) ?_); intro v7 w7 ho7 hg7 _; obtain ⟨a7, c7, rfl⟩ := own_shape ho7; have Hg7 := hid hg7; have Ho7 := hid ho7; clear hg7 ho7))
      have Hb7 := hid (show Below wr.heap.size wr w7 from (via Hb34.out (below_alloc w4 _)).grown Hg7.out (Nat.le_trans Hb34.out.size (below_alloc w4 _).size) (fun b e => (own_blk h6h.out e).2))
      have hrow7 : Row w7 1 (.slice a7 (L + 1) c7) (ws ++ [x]).length ((ws ++ [x]).map U) := by
        have h := Row.of_owns Ho7.out
        rw [List.length_append, List.map_append, ← HL.out]
        exact h
      have hlen7 : (ws ++ [x]).length = L + 1 := by rw [List.length_append, ← HL.out]; rfl
      by_cases hL200 : 200 ≤ L
      · obtain rfl : L = 200 := by omega
        have hA7 : allW s (ws ++ [x]) = (21, none, 0) := allW_long Hr.out (.inl (by rw [hlen7]; omega))
        have hct := hid (checkTop_any (HlW.out _ Hb7.out) (HsW.out _ Hb7.out) hrow7 hA7)
        have hck := hid (vcheck_any s (ws ++ [x]) _ _ w7 (HsW.out _ Hb7.out) hrow7)
        rw [hA7] at hck
        rw [← HS.out] at hct hck
        clear hrow7 hA7
        ((refine hck.out.mono ?_); rintro r8 w8 ⟨u8, rfl, hE8, hb8⟩)
        go_wp2_with fail
        ((refine (word_errW hE8).mono ?_); rintro r9 w9 ⟨rfl, hb9⟩)
        have hb79 := via hb8 hb9
        go_wp2_with fail
        ((refine (hct.out w9 hb79).1.mono ?_); rintro r10 w10 ⟨u10, rfl, -, hb10, ht10⟩)
        go_wp2_with fail
        ((refine ht10.mono ?_); rintro r11 w11 ⟨rfl, hb11, -⟩)
        go_wp2_with fail
        go_returns
        exact ⟨rfl, via Hb13.out (Hbl.out.trans ((via Hb7.out hb11).mono Hbl.out.size))⟩
      · have hL3 : ((L : Int) + 1 > 200) = False := by simp; omega
        have hA7 : allW s (ws ++ [x]) = (10, some 0, 0) := allW_form Hr.out (by rw [hlen7]; omega) (by rw [hlen7]; omega) (by rw [hlen7]; have := Hlo.out; have := HL.out; omega)
        have hct := hid (checkTop_any (HlW.out _ Hb7.out) (HsW.out _ Hb7.out) hrow7 hA7)
        have hck := hid (vcheck_any s (ws ++ [x]) _ _ w7 (HsW.out _ Hb7.out) hrow7)
        rw [hA7] at hck
        rw [← HS.out] at hct hck
        clear hrow7 hA7
        ((refine hck.out.mono ?_); rintro r8 w8 ⟨u8, rfl, hE8, hb8⟩)
        go_wp2_with fail
        ((refine (word_errW hE8).mono ?_); rintro r9 w9 ⟨rfl, hb9⟩)
        have hb79 := via hb8 hb9
        go_wp2_with fail
        ((refine (hct.out w9 hb79).1.mono ?_); rintro r10 w10 ⟨u10, rfl, -, hb10, ht10⟩)
        go_wp2_with fail
        ((refine ht10.mono ?_); rintro r11 w11 ⟨rfl, hb11, -⟩)
        go_wp2_with fail
        go_returns
        exact ⟨rfl, via Hb13.out (Hbl.out.trans ((via Hb7.out hb11).mono Hbl.out.size))⟩

theorem law_ValidKeeps (u v : Value) (n m : Nat) (tl vl : List Int) (T : Int) (x : BitVec 64) (w : World) (hl : LaidE w) (hu : Row w 1 u n (tl.map (Value.int .i64))) (hv : Row w 1 v m (vl.map (Value.int .i64)))
    (hub : ∀ z ∈ tl, -9223372036854775808 ≤ z ∧ z ≤ 9223372036854775807) (hvb : ∀ z ∈ vl, -9223372036854775808 ≤ z ∧ z ≤ 9223372036854775807) (hT : -9223372036854775808 ≤ T ∧ T ≤ 9223372036854775807) :
    Calls Tryd.prog 12 #[.agg #[u, v, .int .i64 T], U x] w fun r w' => r = .returned (.bool true) ∧ Below w.heap.size w w' :=
  vkeeps_walk u v T tl vl x w hl (row_lenS hu) (row_lenS hv) hub hvb hT
end SLVKeeps

end Go.Proofs.YtogaclolodlnbaaDoor


/- ValidCut: a message that lacks words at its end is none. -/
import Derived.Test.YtogaclolodlnbaaDoorLVBuilt
import Derived.Deep.AppendLies
set_option linter.unusedVariables false
set_option linter.unusedSimpArgs false
namespace Go.Proofs.YtogaclolodlnbaaDoor
section SLVCut
open Go.RowKit

theorem typeL_one {s : Schema} (hr : rightB s = true) {t : Nat} (ht : t < s.length) : 1 ≤ (typeL s (t : Int)).length := by
  obtain ⟨l, hl⟩ := get_lt ht
  rw [typeL_at hl]
  unfold rightB at hr
  simp only [Bool.and_eq_true, List.all_eq_true] at hr
  have := hr.2 l (List.mem_of_getElem? hl)
  unfold lOk at this
  simp only [Bool.and_eq_true, decide_eq_true_eq] at this
  exact this.1.1
theorem msg_two {s : Schema} (hr : rightB s = true) {ws : List (BitVec 64)} (h : MsgP s ws) : ws.length = 0 ∨ 2 ≤ ws.length := by
  rcases h with rfl | ⟨d, t, X, ht, hc, rfl, hl⟩
  · exact .inl rfl
  · right
    have h1 := (build_lie hc).1
    have hw : wordsT (d + 1) X = (Node.kids X).length + belowT (d + 1) X := words_below (d + 1) X
    have hlen := (code_struct hc).2.2.2.2.1
    have := typeL_one hr ht
    omega
theorem cut_word (x : BitVec 64) (c : Nat) (hc : c < 4294967296) : loN ((x &&& ~~~ 4294967295#64) ||| BitVec.ofInt 64 (c : Int)) = c ∧ hiN ((x &&& ~~~ 4294967295#64) ||| BitVec.ofInt 64 (c : Int)) = hiN x := by
  have hlo : ∀ y : BitVec 64, loN y = (y &&& 4294967295#64).toNat := fun y => by
    rw [BitVec.toNat_and, show (4294967295#64).toNat = 2 ^ 32 - 1 from rfl, Nat.and_two_pow_sub_one_eq_mod]; rfl
  have hhi : ∀ y : BitVec 64, hiN y = (y >>> 32).toNat := fun y => by
    rw [BitVec.toNat_ushiftRight, Nat.shiftRight_eq_div_pow]; rfl
  have hcv : BitVec.ofInt 64 (c : Int) = BitVec.ofNat 64 c := by rw [BitVec.ofInt_natCast]
  have hcb : BitVec.ofNat 64 c = BitVec.ofNat 64 c &&& 4294967295#64 := by
    apply BitVec.eq_of_toNat_eq
    rw [BitVec.toNat_and, show (4294967295#64).toNat = 2 ^ 32 - 1 from rfl, Nat.and_two_pow_sub_one_eq_mod, BitVec.toNat_ofNat]
    omega
  have hcn : (BitVec.ofNat 64 c).toNat = c := by rw [BitVec.toNat_ofNat]; omega
  rw [hlo, hhi, hhi, hcv]
  constructor
  · have e : ((x &&& ~~~ 4294967295#64) ||| BitVec.ofNat 64 c) &&& 4294967295#64 = BitVec.ofNat 64 c := by
      rw [hcb]
      apply BitVec.eq_of_getLsbD_eq
      intro j hj
      simp only [BitVec.getLsbD_and, BitVec.getLsbD_or, BitVec.getLsbD_not, hj, decide_true, Bool.true_and]
      cases (4294967295#64).getLsbD j <;> simp
    rw [e, hcn]
  · have e : ((x &&& ~~~ 4294967295#64) ||| BitVec.ofNat 64 c) >>> 32 = x >>> 32 := by
      rw [hcb]
      apply BitVec.eq_of_getLsbD_eq
      intro j hj
      have hm : ∀ i, 32 ≤ i → (4294967295#64).getLsbD i = false := fun i hi => by
        rw [show (4294967295#64) = BitVec.ofNat 64 (2 ^ 32 - 1) from rfl, BitVec.getLsbD_ofNat, Nat.testBit_two_pow_sub_one]
        simp; omega
      simp only [BitVec.getLsbD_ushiftRight, BitVec.getLsbD_and, BitVec.getLsbD_or, BitVec.getLsbD_not, hm (32 + j) (by omega), Bool.not_false, Bool.and_true, Bool.and_false, Bool.or_false]
      by_cases h : 32 + j < 64
      · simp [h]
      · simp [h, BitVec.getLsbD_of_ge x (32 + j) (by omega)]
    rw [e]

set_option maxRecDepth 100000 in
set_option maxHeartbeats 8000000 in
theorem vcut_walk (u v : Value) (T : Int) (tl vl : List Int) (less : Int) (says : Bool) (w : World) (hl : LaidE w) (hu : Row w 1 u tl.length (tl.map (Value.int .i64))) (hv : Row w 1 v vl.length (vl.map (Value.int .i64)))
    (hub : ∀ z ∈ tl, -9223372036854775808 ≤ z ∧ z ≤ 9223372036854775807) (hvb : ∀ z ∈ vl, -9223372036854775808 ≤ z ∧ z ≤ 9223372036854775807) (hT : -9223372036854775808 ≤ T ∧ T ≤ 9223372036854775807) (hless : -9223372036854775808 ≤ less ∧ less ≤ 9223372036854775807) :
    Calls Tryd.prog 5 #[.agg #[u, v, .int .i64 T], .int .i64 less, .bool says] w fun r w' => r = .returned (.bool true) ∧ Below w.heap.size w w' := by
  obtain ⟨iU, hiU, hzU, hsU, hbU⟩ := info_parts (show (Tryd.prog.info? 38).map (fun i => (i.zero, i.size, i.bytes)) = some (some (.int .u64 0), 1, 8) by kernel_rfl)
  obtain ⟨au, cu, hue, -⟩ := hu.open
  obtain ⟨av, cv, hve, -⟩ := hv.open
  obtain ⟨w1, hw1, hb1, hlt1, hbox1⟩ := boxed w #[u, v, .int .i64 T] 24
  have q0 : w1.cell? ⟨w.heap.size, 0, none⟩ = some u := hbox1 0
  have q1 : w1.cell? ⟨w.heap.size, 1, none⟩ = some v := hbox1 1
  have q2 : w1.cell? ⟨w.heap.size, 2, none⟩ = some (.int .i64 T) := hbox1 2
  have hl1 := LaidE.below hl hb1 (LaidE.pos hl)
  have hspec := hid fun W (hW : Below w.heap.size w W) => spec8_any 3 4 (by omega) rfl u v T tl vl W (hu.below hW (Nat.le_refl _)) (hv.below hW (Nat.le_refl _)) hub hvb hT
  subst hue hve
  have HLaid := hid hl
  clear hu hv hub hvb hbox1 hl
  go_enter Tryd.func5, Tryd.ntmps5
  go_wp2_with fail
  ((refine (awake08 _ hl1).mono ?_); rintro r2 w2 ⟨rfl, hb2⟩)
  replace q0 := (hb2.cell hlt1).trans q0
  replace q1 := (hb2.cell hlt1).trans q1
  replace q2 := (hb2.cell hlt1).trans q2
  have hb12 := via hb1 hb2
  clear hw1
  go_wp2_with fail
  ((refine (hspec.out _ hb12).mono ?_); rintro r3 w3 ⟨sv, wv, s, ws, rfl, hb3, hs, hr, hrow, hmsg⟩)
  have hb13 := via hb12 hb3
  have hmsg2 := msg_two hr hmsg
  have hl3 := LaidE.below HLaid.out hb13 (LaidE.pos HLaid.out)
  clear hspec q0 q1 q2 hb2 hb3 hl1 hb12 hb1
  rcases hmsg2 with h0 | h2
  · obtain ⟨wa, wc, rfl, -⟩ := hrow.open
    rw [h0]
    clear hmsg hs hrow hr
    go_wp2_with fail
    go_returns
    exact ⟨rfl, hb13⟩
  rcases hmsg with rfl | ⟨d, t, X, ht, hcode, hws, h200⟩
  · simp at h2
  obtain ⟨hm1, hm2, -⟩ := build_lie hcode
  rw [← hws] at hm1 hm2
  have hs8 : s.length ≤ 8 := by unfold rightB at hr; simp only [Bool.and_eq_true, decide_eq_true_eq] at hr; exact hr.1.2
  have hpt := refV_parts (1 + wordsT (d + 1) X) t (by omega) (by omega)
  rw [← hm1] at hpt hm2
  obtain ⟨bw, offw, cap, rfl, hcap1, hcap2, hbw, hcw⟩ := hrow.cons (by omega)
  obtain ⟨L, hL⟩ : ∃ L, L = ws.length := ⟨_, rfl⟩
  have HL := hid hL
  have Hrow := hid hrow
  have Hs := hid hs
  have hall := allW_built hr ht hcode (by rw [← hws]; exact h200)
  rw [← hws] at hall
  have Hall := hid hall
  have Hr := hid hr
  have Hcut := hid fun (xs : List (BitVec 64)) (a1 : 0 < xs.length) (a2 : xs.length < ws.length) (a3 : Pre ws xs) (a4 : loN (xs.getD 0 0#64) = xs.length) (a5 : hiN (xs.getD 0 0#64) = t) => show (allW s xs).1 = 23 from allW_cut hr ht hcode (by rw [← hws]; exact h200) a1 (by rw [← hws]; exact a2) (by rw [← hws]; exact a3) a4 a5
  rw [← hL] at h2 h200 hcap1 hcw hpt hm2 ⊢
  obtain ⟨N, hN⟩ : ∃ N, N = L - 1 := ⟨_, rfl⟩
  have hN1 : 1 ≤ N := by omega
  have hLN : (L : Int) - 1 = (N : Int) := by omega
  have hL2 : (2 : Int) ≤ (L : Int) := by omega
  have hNz : ((N : Int) == 0) = false := by rw [beq_eq_false_iff_ne]; omega
  have t1 := Int.tmod_lt_of_pos less (show (0 : Int) < N by omega)
  have t2 := Int.lt_tmod_of_pos less (show (0 : Int) < N by omega)
  obtain ⟨x, hx⟩ : ∃ x, Int.tmod less (N : Int) = x := ⟨_, rfl⟩
  rw [hx] at t1 t2
  have e0 := Int.emod_nonneg (x + (N : Int)) (show (N : Int) ≠ 0 by omega)
  have e1 := Int.emod_lt_of_pos (x + (N : Int)) (show (0 : Int) < N by omega)
  obtain ⟨i, hi⟩ : ∃ i : Nat, (x + (N : Int)) % (N : Int) = (i : Int) := ⟨((x + (N : Int)) % (N : Int)).toNat, by omega⟩
  have hi' : x % (N : Int) = (i : Int) := by rw [← hi]; simp
  have hwt : (IntKind.i64.wrap (x + (N : Int))).tmod (N : Int) = (i : Int) := by
    rw [IntWalk.i64_in _ (by omega), Int.tmod_eq_emod_of_nonneg (by omega), hi]
  have hiN' : i < N := by omega
  clear e0 e1
  obtain ⟨c, hc⟩ : ∃ c, c = N - i := ⟨_, rfl⟩
  have hcN : (N : Int) - (i : Int) = (c : Int) := by omega
  have hc1 : 1 ≤ c := by omega
  have hcL : c < L := by omega
  have hccap : (c : Int) ≤ (cap : Int) := by omega
  have hxl : ((ws.take c).map U).length = c * 1 := by rw [List.length_map, List.length_take, ← hL]; omega
  have hone : ∀ u ∈ (ws.take c).map U, u.oneCell' = true := fun u hu => by obtain ⟨x, _, rfl⟩ := List.mem_map.1 hu; rfl
  have hnews := hid fun (j : Nat) (u : Value) (e : ((ws.take c).map U)[j]? = some u) => show (w3.alloc (.cells #[] 38)).cell? ((⟨bw, offw, none⟩ : Addr).add j) = some u from by
    have hj : j < c := by have := (List.getElem?_eq_some_iff.1 e).1; omega
    rw [Addr.add_lit, (below_alloc w3 _).cell (p := ⟨bw, offw + j, none⟩) hbw, hcw j (by omega), ← e, List.getElem?_map, List.getElem?_map, List.getElem?_take, if_pos hj]
  have Hxl := hid hxl
  have Hone := hid hone
  have Hc := hid hc
  clear hL hws hm1 hcode hall hr hs hrow hcw hxl hone hN hc
  have hx0 : ws.getD 0 0#64 = refV (L : Int) t := by rw [List.getD_eq_getElem?_getD, hm2]; rfl
  have htk : (ws.take c).length = c := by rw [List.length_take, ← HL.out]; omega
  have htk0 : (ws.take c)[0]? = some (refV (L : Int) t) := by rw [List.getElem?_take, if_pos (by omega)]; exact hm2
  have Htk := hid htk
  have Htk0 := hid htk0
  clear htk htk0 hx0 hm2
  generalize hXS : ws.take c = xs at *
  have HXS := hid hXS
  clear hXS
  have HwS := hid fun W (hW : Below w3.heap.size w3 W) => checkTop_any (LaidE.below hl3 hW (LaidE.pos hl3)) (Hs.out.below hW (Nat.le_refl _)) (Hrow.out.below hW (Nat.le_refl _)) Hall.out
  rw [← HL.out] at HwS
  have HxS := hid fun W (hW : Below w3.heap.size w3 W) (wv : Value) (ys : List (BitVec 64)) (hr2 : Row W 1 wv ys.length (ys.map U)) (e : Int) (p : Option Nat) (n : Nat) (ha : allW s ys = (e, p, n)) => checkTop_any (LaidE.below hl3 hW (LaidE.pos hl3)) (Hs.out.below hW (Nat.le_refl _)) hr2 ha
  have Hb13 := hid hb13
  cases says with
  | false =>
    have hform := hid (allW_form Hr.out (xs := xs) (by rw [Htk.out]; omega) (by rw [Htk.out]; omega) (by
      rw [List.getD_eq_getElem?_getD, Htk0.out, Htk.out]
      show loN (refV (L : Int) t) ≠ c
      rw [hpt.1]; omega))
    go_wp2_with (at_builtin; refine wpList_append_lies (w := w3.alloc (.cells #[] 38)) rfl (.tmp 31) (.tmp 42) 28 rfl w3.heap.size 38 iU _ 1 8 Tryd.underlying28 hiU hzU hsU hbU rfl (by omega) (.slice (some ⟨w3.heap.size, 0, none⟩) 0 0) 0 [] rfl (World.ownsRow_made w3 #[] 0 (Nat.le_refl _) (by simp [maxLen]) rfl) ⟨bw, offw, none⟩ c cap (xs.map U) rfl Hxl.out hnews.out Hone.out (by omega) (by unfold maxLen; omega) (by omega) (by simp) (w3.heap.size + 1) (by simp) ?_; intro g c' w4 h6 h7 h8 h9; rw [List.nil_append, Nat.zero_add] at h6; have hb34 := grown_drop h7; clear h7 h8 h9)
    have hct := hid (HxS.out w4 hb34 _ xs (by rw [Htk.out]; exact Row.of_owns h6) 10 (some 0) 0 hform.out)
    have hctw := hid (HwS.out w4 hb34)
    clear h6 hnews Hxl Hone hi hi' hwt hform
    ((refine (hct.out w4 (Below.refl _ _)).1.mono ?_); rintro r5 w5 ⟨u5, rfl, -, hb5, ht5⟩)
    go_wp2_with fail
    ((refine ht5.mono ?_); rintro r6 w6 ⟨rfl, hb6, -⟩)
    clear ht5
    go_wp2_with fail
    ((refine (hctw.out w6 hb6).1.mono ?_); rintro r7 w7 ⟨u7, rfl, -, hb7, ht7⟩)
    go_wp2_with fail
    ((refine ht7.mono ?_); rintro r8 w8 ⟨rfl, hb8, -⟩)
    go_wp2_with fail
    go_returns
    exact ⟨rfl, Hb13.out.trans ((via hb34 hb8).mono Hb13.out.size)⟩
  | true =>
    go_wp2_with (at_builtin; refine wpList_append_lies (w := w3.alloc (.cells #[] 38)) rfl (.tmp 31) (.tmp 42) 28 rfl w3.heap.size 38 iU _ 1 8 Tryd.underlying28 hiU hzU hsU hbU rfl (by omega) (.slice (some ⟨w3.heap.size, 0, none⟩) 0 0) 0 [] rfl (World.ownsRow_made w3 #[] 0 (Nat.le_refl _) (by simp [maxLen]) rfl) ⟨bw, offw, none⟩ c cap (xs.map U) rfl Hxl.out hnews.out Hone.out (by omega) (by unfold maxLen; omega) (by omega) (by simp) (w3.heap.size + 1) (by simp) ?_; intro g c' w4 h6 h7 h8 h9; rw [List.nil_append, Nat.zero_add] at h6; have hb34 := grown_drop h7; have y0 : w4.cell? ⟨g, 0, none⟩ = some (U (refV (L : Int) t)) := by { have h := h6.cellAt 0 (by omega); rw [List.getElem?_map, Htk0.out] at h; exact h }; have y1 := h6.frozenAt 0; clear h7 h8 h9)
    obtain ⟨y, hy⟩ : ∃ y, y = (refV (L : Int) t &&& ~~~ 4294967295#64) ||| BitVec.ofInt 64 (c : Int) := ⟨_, rfl⟩
    have hcw := cut_word (refV (L : Int) t) c (by omega)
    rw [← hy, hpt.2] at hcw
    have hset := own_setN h6 0 (U y)
    rw [← List.map_set] at hset
    have hb35 : Below w3.heap.size w3 (w4.setCell ⟨g, 0, none⟩ (U y)) := hb34.setCell (p := ⟨g, 0, none⟩) (own_blk h6 (g := g) rfl).2 (U y)
    have hxsl : (xs.set 0 y).length = c := by rw [List.length_set]; exact Htk.out
    have hxsd : (xs.set 0 y).getD 0 0#64 = y := by rw [List.getD_eq_getElem?_getD, List.getElem?_set_self (by rw [Htk.out]; omega)]; rfl
    have h23 := Hcut.out (xs.set 0 y) (by rw [hxsl]; omega) (by rw [hxsl, ← HL.out]; omega) ⟨by rw [hxsl, ← HL.out]; omega, fun q h1 h2 => by
      rw [List.getElem?_set_ne (by omega), ← HXS.out, List.getElem?_take, if_pos (by omega)]⟩ (by rw [hxsd, hxsl]; exact hcw.1) (by rw [hxsd]; exact hcw.2)
    obtain ⟨⟨e9, p9, n9⟩, hA9⟩ : ∃ r, allW s (xs.set 0 y) = r := ⟨_, rfl⟩
    rw [hA9] at h23
    obtain rfl : e9 = 23 := h23
    have hct := hid (HxS.out _ hb35 _ (xs.set 0 y) (by rw [hxsl]; exact Row.of_owns hset) 23 p9 n9 hA9)
    have hctw := hid (HwS.out _ hb35)
    rw [hy] at hct hctw hb35
    clear h6 hnews Hxl Hone hi hi' hwt hset hxsl hxsd hA9 hy y0 y1 hcw
    ((refine (hct.out _ (Below.refl _ _)).1.mono ?_); rintro r5 w5 ⟨u5, rfl, -, hb5, ht5⟩)
    go_wp2_with fail
    ((refine ht5.mono ?_); rintro r6 w6 ⟨rfl, hb6, -⟩)
    clear ht5
    go_wp2_with fail
    ((refine (hctw.out w6 hb6).1.mono ?_); rintro r7 w7 ⟨u7, rfl, -, hb7, ht7⟩)
    go_wp2_with fail
    ((refine ht7.mono ?_); rintro r8 w8 ⟨rfl, hb8, -⟩)
    go_wp2_with fail
    go_returns
    exact ⟨rfl, Hb13.out.trans ((via hb35 hb8).mono Hb13.out.size)⟩

theorem law_ValidCut (u v : Value) (n m : Nat) (tl vl : List Int) (T : Int) (less : Int) (says : Bool) (w : World) (hl : LaidE w) (hu : Row w 1 u n (tl.map (Value.int .i64))) (hv : Row w 1 v m (vl.map (Value.int .i64)))
    (hub : ∀ z ∈ tl, -9223372036854775808 ≤ z ∧ z ≤ 9223372036854775807) (hvb : ∀ z ∈ vl, -9223372036854775808 ≤ z ∧ z ≤ 9223372036854775807) (hT : -9223372036854775808 ≤ T ∧ T ≤ 9223372036854775807) (hless : -9223372036854775808 ≤ less ∧ less ≤ 9223372036854775807) :
    Calls Tryd.prog 5 #[.agg #[u, v, .int .i64 T], .int .i64 less, .bool says] w fun r w' => r = .returned (.bool true) ∧ Below w.heap.size w w' :=
  vcut_walk u v T tl vl less says w hl (row_lenS hu) (row_lenS hv) hub hvb hT hless
end SLVCut

end Go.Proofs.YtogaclolodlnbaaDoor


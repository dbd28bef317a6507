/- BuildOnce: two structs of a type have the same message just if they are the same. -/
import Derived.Test.YtogaclolodlnbaaDoorAw7
import Derived.Test.YtogaclolodlnbaaDoorMadeB3
import Derived.Test.YtogaclolodlnbaaDoorGn
import Derived.Test.YtogaclolodlnbaaDoorGj
set_option linter.unusedVariables false
set_option linter.unusedSimpArgs false
namespace Go.Proofs.YtogaclolodlnbaaDoor
section SLBOnce
open Go.RowKit

set_option maxRecDepth 100000 in
set_option maxHeartbeats 8000000 in
theorem bonce_walk (u v o : Value) (T : Int) (tl vl ol : List Int) (w : World) (hl : LaidE w) (hu : Row w 1 u tl.length (tl.map (Value.int .i64))) (hv : Row w 1 v vl.length (vl.map (Value.int .i64))) (ho : Row w 1 o ol.length (ol.map (Value.int .i64)))
    (hub : ∀ z ∈ tl, -9223372036854775808 ≤ z ∧ z ≤ 9223372036854775807) (hvb : ∀ z ∈ vl, -9223372036854775808 ≤ z ∧ z ≤ 9223372036854775807) (hT : -9223372036854775808 ≤ T ∧ T ≤ 9223372036854775807) (hob : ∀ z ∈ ol, -9223372036854775808 ≤ z ∧ z ≤ 9223372036854775807) :
    Calls Tryd.prog 7 #[.agg #[u, v, .int .i64 T], o] w fun r w' => r = .returned (.bool true) ∧ Below w.heap.size w w' := by
  obtain ⟨au, cu, hue, -⟩ := hu.open
  obtain ⟨av, cv, hve, -⟩ := hv.open
  obtain ⟨ao, co, hoe, -⟩ := ho.open
  obtain ⟨w1, hw1, hb1, hlt1, hbox1⟩ := boxed w #[u, v, .int .i64 T] 46
  have q0 : w1.cell? ⟨w.heap.size, 0, none⟩ = some u := hbox1 0
  have q1 : w1.cell? ⟨w.heap.size, 1, none⟩ = some v := hbox1 1
  have q2 : w1.cell? ⟨w.heap.size, 2, none⟩ = some (.int .i64 T) := hbox1 2
  have hl1 := LaidE.below hl hb1 (LaidE.pos hl)
  have hspec := hid fun W (hW : Below w.heap.size w W) => spec7q_any 3 4 (by omega) rfl u v T tl vl W (hu.below hW (Nat.le_refl _)) (hv.below hW (Nat.le_refl _)) hub hvb hT
  have hspec2 := hid fun W (hW : Below w.heap.size w W) => spec7q_any 3 4 (by omega) rfl u o T tl ol W (hu.below hW (Nat.le_refl _)) (ho.below hW (Nat.le_refl _)) hub hob hT
  have hul : tl.length = tl.length := rfl
  have HLaidW := hid fun W (hW : Below w.heap.size w W) => LaidE.below hl hW (LaidE.pos hl)
  subst hue hve hoe
  clear hu hv ho hub hvb hob hbox1 hl hul
  go_enter Tryd.func7, Tryd.ntmps7
  go_wp2_with fail
  ((refine (awake07 _ hl1).mono ?_); rintro r2 w2 ⟨rfl, hb2⟩)
  replace q0 := (hb2.cell hlt1).trans q0
  replace q1 := (hb2.cell hlt1).trans q1
  replace q2 := (hb2.cell hlt1).trans q2
  have hb12 := via hb1 hb2
  have hlt2 := Nat.lt_of_lt_of_le hlt1 hb2.size
  clear hw1
  go_wp2_with fail
  ((refine (hspec.out _ hb12).mono ?_); rintro r3 w3 ⟨sv, s, t, x0, x1, x2, x3, X, ⟨hse, hte⟩, rfl, hb3, hs, hr, ht, hs4, hrd, hfit⟩)
  obtain ⟨a2, p2, a, cap, hcs, -, -, -, -, -⟩ := RdN.open hrd
  simp only [List.cons.injEq] at hcs
  obtain ⟨rfl, rfl, rfl, rfl, -⟩ := hcs
  have hb13 := via hb12 hb3
  replace q0 := (hb3.cell hlt2).trans q0
  replace q1 := (hb3.cell hlt2).trans q1
  replace q2 := (hb3.cell hlt2).trans q2
  have hlt3 := Nat.lt_of_lt_of_le hlt2 hb3.size
  have Hse := hid hse
  have Hte := hid hte
  have hcodeX := hid (fit_code s 4 5 t X hfit (by omega))
  obtain ⟨sa, scap, hsv, -⟩ := hs.shape
  obtain ⟨sn, hsn⟩ : ∃ n, n = s.length := ⟨_, rfl⟩
  rw [← hsn] at hsv
  subst hsv
  obtain ⟨w4, hw4, hb4, hz4, hD⟩ := TB.make w3 (U (Node.num X)) (.string (Node.bytes X)) (.slice a2 (Node.nums X).length p2) (.slice a (Node.kids X).length cap) 49
  replace q0 := (hb4.cell hlt3).trans q0
  replace q1 := (hb4.cell hlt3).trans q1
  replace q2 := (hb4.cell hlt3).trans q2
  obtain ⟨w5, hw5, hb5, hlt5, hbox5⟩ := boxed w4 #[.slice au tl.length cu, .slice av vl.length cv, .int .i64 T] 46
  have p1 : w5.cell? ⟨w4.heap.size, 1, none⟩ = some (.slice av vl.length cv) := hbox5 1
  have pf : w5.frozen? ⟨w4.heap.size, 1, none⟩ = false := by rw [← hw5]; exact World.frozen?_alloc_at _ _ _ _ rfl
  obtain ⟨w6, hw6⟩ : ∃ w6, w5.setCell ⟨w4.heap.size, 1, none⟩ (.slice ao ol.length co) = w6 := ⟨_, rfl⟩
  have hb35 := via hb4 hb5
  have hb36 : Below w3.heap.size w3 w6 := by rw [← hw6]; exact hb35.setCell (p := ⟨w4.heap.size, 1, none⟩) hb4.size _
  have s0 : w6.cell? ⟨w4.heap.size, 0, none⟩ = some (.slice au tl.length cu) := by rw [← hw6]; exact (World.cell?_setCell_other _ _ _ _ (by simp)).trans (hbox5 0)
  have s1 : w6.cell? ⟨w4.heap.size, 1, none⟩ = some (.slice ao ol.length co) := by rw [← hw6]; exact World.cell?_setCell_same _ _ _ p1
  have s2 : w6.cell? ⟨w4.heap.size, 2, none⟩ = some (.int .i64 T) := by rw [← hw6]; exact (World.cell?_setCell_other _ _ _ _ (by simp)).trans (hbox5 2)
  have hblk6 : ∀ b, b < w4.heap.size → w6.heap[b]? = w4.heap[b]? := fun b hb => by rw [← hw6, Below.heap_setCell _ _ _ _ (by show b ≠ w4.heap.size; omega)]; exact hb5.block b hb
  have hsz6 : w4.heap.size ≤ w6.heap.size := by rw [← hw6]; simpa [World.setCell] using hb5.size
  have hD6 := hD.of_block (hblk6 _ hD.lt) (Nat.lt_of_lt_of_le hD.lt hsz6)
  have hB6 := hb13.trans (hb36.mono hb13.size)
  have Hs := hid fun W (hW : Below w3.heap.size w3 W) => hs.below hW (Nat.le_refl _)
  have HrdX := hid fun W (hW : Below w3.heap.size w3 W) => hrd.below hW (Nat.le_refl _)
  have HDX := hid fun W (hW : Below w6.heap.size w6 W) => hD6.below hW
  have Hr := hid hr
  have Hsn := hid hsn
  have Hlt : t < sn := by rw [hsn]; exact ht
  have hs4' : sn ≤ 4 := by rw [hsn]; exact hs4
  clear hspec hb2 hb3 hl1 hb12 hb1 hlt1 hlt2 hlt3 hs hrd hfit hr hsn ht hs4 hse hte hz4 hD hD6 hbox5 hb5 hb35 hblk6
  go_wp2_with fail
  clear hw4 hw5 hw6 q0 q1 q2 p1 pf
  ((refine (hspec2.out _ hB6).mono ?_); rintro r7 w7 ⟨sv', s', t', y0, y1, y2, y3, Y, ⟨hse', hte'⟩, rfl, hb7, hs', -, -, -, hrd', hfit'⟩)
  obtain ⟨b2, q2, b, bcap, hcs', -, -, -, -, -⟩ := RdN.open hrd'
  simp only [List.cons.injEq] at hcs'
  obtain ⟨rfl, rfl, rfl, rfl, -⟩ := hcs'
  have hse2 : s' = s := by rw [hse', Hse.out]
  have hte2 : t' = t := by rw [hte', Hte.out]
  subst hse2 hte2
  have hcodeY := hid (fit_code s' 4 5 t' Y hfit' (by omega))
  obtain ⟨sa', scap', hsv', -⟩ := hs'.shape
  subst hsv'
  have hb37 := hb36.trans (hb7.mono hb36.size)
  obtain ⟨w8, hw8, hb8, hz8, hDY⟩ := TB.make w7 (U (Node.num Y)) (.string (Node.bytes Y)) (.slice b2 (Node.nums Y).length q2) (.slice b (Node.kids Y).length bcap) 49
  have hb38 := hb37.trans (hb8.mono hb37.size)
  have hb68 := via hb7 hb8
  have HrdY := hid fun W (hW : Below w7.heap.size w7 W) => hrd'.below hW (Nat.le_refl _)
  have HD8 := hid fun W (hW : Below w8.heap.size w8 W) => show TB W w3.heap.size (U (Node.num X)) (.string (Node.bytes X)) (.slice a2 (Node.nums X).length p2) (.slice a (Node.kids X).length cap) ∧ TB W w7.heap.size (U (Node.num Y)) (.string (Node.bytes Y)) (.slice b2 (Node.nums Y).length q2) (.slice b (Node.kids Y).length bcap) ∧ Sch W (.slice sa sn scap) s' ∧ RdS 4 W [U (Node.num X), .string (Node.bytes X), .slice a2 (Node.nums X).length p2, .slice a (Node.kids X).length cap] X ∧ RdS 4 W [U (Node.num Y), .string (Node.bytes Y), .slice b2 (Node.nums Y).length q2, .slice b (Node.kids Y).length bcap] Y from
    ⟨HDX.out W (via hb68 hW), hDY.below hW, Hs.out W (hb38.trans (hW.mono hb38.size)), HrdX.out W (hb38.trans (hW.mono hb38.size)), HrdY.out W (via hb8 hW)⟩
  have hB8 := hb13.trans (hb38.mono hb13.size)
  obtain ⟨⟨_, e0, e1, e2, e3, _⟩, ⟨_, f0, f1, f2, f3, _⟩, hs8, hx8, hy8⟩ := HD8.out w8 (Below.refl _ _)
  have hEX : buildE s' 3 t' X = (if 1 + wordsT 4 X ≤ 200 then 0 else 21) := by rw [buildE, if_pos]; rw [checkC, if_pos ⟨Hr.out, by omega, by rw [← Hsn.out]; omega⟩]; exact hcodeX.out
  have hEY : buildE s' 3 t' Y = (if 1 + wordsT 4 Y ≤ 200 then 0 else 21) := by rw [buildE, if_pos]; rw [checkC, if_pos ⟨Hr.out, by omega, by rw [← Hsn.out]; omega⟩]; exact hcodeY.out
  have htop0 := hid fun W (hW : Below w.heap.size w W) => top_err 0 W (HLaidW.out W hW)
  have htop1 := hid fun W (hW : Below w.heap.size w W) => top_err 21 W (HLaidW.out W hW)
  rw [show ErrV 0 = .nilIface from rfl] at htop0
  rw [errV_ne (show (21 : Int) ≠ 0 by decide)] at htop1
  have Hby := hid fun W (hW : Below w8.heap.size w8 W) => (HD8.out W hW).2.2
  clear hs8 hs' hrd' hfit' hz8 hDY hse' hte' hspec2 hb7 hb8 HDX HrdX HrdY Hs s0 s1 s2
  by_cases hzx : 1 + wordsT 4 X ≤ 200
  · rw [if_pos hzx] at hEX
    have hbX := hid (build_yes (Hby.out w8 (Below.refl _ _)).1 hx8 hEX)
    clear hx8 hy8 hEX hzx
    go_wp2_with fail
    clear hw8
    ((refine hbX.out.mono ?_); rintro r9 w9 ⟨wvx, rfl, hrowx, hb9⟩)
    obtain ⟨wa, wc, rfl, -⟩ := hrowx.open
    have hB9 := hB8.trans (hb9.mono hB8.size)
    obtain ⟨⟨_, g0, g1, g2, g3, _⟩, ⟨_, h0, h1, h2, h3, _⟩, hs9, hx9, hy9⟩ := HD8.out w9 hb9
    clear e0 e1 e2 e3 f0 f1 f2 f3 hbX
    by_cases hzy : 1 + wordsT 4 Y ≤ 200
    · rw [if_pos hzy] at hEY
      have hbY := hid (build_yes hs9 hy9 hEY)
      clear hs9 hx9 hy9 hEY hzy
      go_wp2_with fail
      ((refine hbY.out.mono ?_); rintro r10 w10 ⟨wvy, rfl, hrowy, hb10⟩)
      obtain ⟨wb, wd, rfl, -⟩ := hrowy.open
      have hb8_10 := via hb9 hb10
      have hB10 := hB9.trans (hb10.mono hB9.size)
      have hrowx10 := hrowx.below hb10 (Nat.le_refl _)
      have hT10 := htop0.out w10 hB10
      clear g0 g1 g2 g3 h0 h1 h2 h3 hbY hrowx
      go_wp2_with fail
      ((refine hT10.mono ?_); rintro r11 w11 ⟨rfl, hb11⟩)
      have hB11 := hB10.trans (hb11.mono hB10.size)
      have hb8_11 := via hb8_10 hb11
      have hT11 := htop0.out w11 hB11
      have hrowx11 := hrowx10.below hb11 (Nat.le_refl _)
      have hrowy11 := hrowy.below hb11 (Nat.le_refl _)
      clear hT10 hrowx10 hrowy
      go_wp2_with fail
      ((refine hT11.mono ?_); rintro r12 w12 ⟨rfl, hb12⟩)
      have hB12 := hB11.trans (hb12.mono hB11.size)
      have hb8_12 := via hb8_11 hb12
      have hrowx12 := hrowx11.below hb12 (Nat.le_refl _)
      have hrowy12 := hrowy11.below hb12 (Nat.le_refl _)
      have hsame := same_any _ _ _ _ _ _ _ hrowx12 hrowy12
      have Heq : (buildW s' 3 t' X == buildW s' 3 t' Y) = eqB X Y := by
        by_cases he : X = Y
        · rw [eqB_yes he, he]; simp
        · rw [eqB_no he, beq_eq_false_iff_ne]; exact fun h => he ((build_inj hcodeX.out hcodeY.out).1 h)
      rw [Heq] at hsame
      clear hT11 hrowx11 hrowy11 Heq hrowx12 hrowy12
      go_wp2_with fail
      ((refine hsame.mono ?_); rintro r13 w13 ⟨rfl, k, rfl⟩)
      have hb8_13 := hb8_12.trans (below_drewN _ w12 k)
      have hB13 := hB12.trans (below_drewN _ w12 k)
      obtain ⟨⟨_, i0, i1, i2, i3, _⟩, ⟨_, j0, j1, j2, j3, _⟩, -, hx13, hy13⟩ := HD8.out _ hb8_13
      have hali := rsame_S 4 X Y _ _ _ hx13 hy13
      clear hsame hx13 hy13
      go_wp2_with fail
      ((refine hali.mono ?_); rintro r14 w14 ⟨rfl, hb14⟩)
      have hB14 := hB13.trans (hb14.mono hB13.size)
      have hbb : (eqB X Y == eqB X Y) = true := by simp
      clear hali i0 i1 i2 i3 j0 j1 j2 j3
      generalize eqB X Y = bb at *
      go_wp2_with fail
      go_returns
      exact ⟨by first | rfl | rw [hbb], hB14⟩
    · rw [if_neg hzy] at hEY
      have hbY := hid (build_no hs9 hy9 hEY (by decide))
      clear hs9 hx9 hy9 hEY hzy
      go_wp2_with fail
      ((refine hbY.out.mono ?_); rintro r10 w10 ⟨wb, wd, rfl, hb10⟩)
      have hB10 := hB9.trans (hb10.mono hB9.size)
      have hT10 := htop0.out w10 hB10
      clear g0 g1 g2 g3 h0 h1 h2 h3 hbY hrowx
      go_wp2_with fail
      ((refine hT10.mono ?_); rintro r11 w11 ⟨rfl, hb11⟩)
      have hB11 := hB10.trans (hb11.mono hB10.size)
      have hT11 := htop1.out w11 hB11
      clear hT10
      go_wp2_with fail
      ((refine hT11.mono ?_); rintro r12 w12 ⟨rfl, hb12⟩)
      have hB12 := hB11.trans (hb12.mono hB11.size)
      have hT12 := htop0.out w12 hB12
      clear hT11
      go_wp2_with fail
      ((refine hT12.mono ?_); rintro r13 w13 ⟨rfl, hb13'⟩)
      have hB13 := hB12.trans (hb13'.mono hB12.size)
      have hT13 := htop1.out w13 hB13
      clear hT12
      go_wp2_with fail
      ((refine hT13.mono ?_); rintro r14 w14 ⟨rfl, hb14⟩)
      have hB14 := hB13.trans (hb14.mono hB13.size)
      clear hT13
      go_wp2_with fail
      go_returns
      exact ⟨rfl, hB14⟩
  · rw [if_neg hzx] at hEX
    have hbX := hid (build_no (Hby.out w8 (Below.refl _ _)).1 hx8 hEX (by decide))
    clear hx8 hy8 hEX hzx
    go_wp2_with fail
    clear hw8
    ((refine hbX.out.mono ?_); rintro r9 w9 ⟨wa, wc, rfl, hb9⟩)
    have hB9 := hB8.trans (hb9.mono hB8.size)
    obtain ⟨⟨_, g0, g1, g2, g3, _⟩, ⟨_, h0, h1, h2, h3, _⟩, hs9, hx9, hy9⟩ := HD8.out w9 hb9
    clear e0 e1 e2 e3 f0 f1 f2 f3 hbX
    by_cases hzy : 1 + wordsT 4 Y ≤ 200
    · rw [if_pos hzy] at hEY
      have hbY := hid (build_yes hs9 hy9 hEY)
      clear hs9 hx9 hy9 hEY hzy
      go_wp2_with fail
      ((refine hbY.out.mono ?_); rintro r10 w10 ⟨wvy, rfl, hrowy, hb10⟩)
      obtain ⟨wb, wd, rfl, -⟩ := hrowy.open
      have hB10 := hB9.trans (hb10.mono hB9.size)
      have hT10 := htop1.out w10 hB10
      clear g0 g1 g2 g3 h0 h1 h2 h3 hbY hrowy
      go_wp2_with fail
      ((refine hT10.mono ?_); rintro r11 w11 ⟨rfl, hb11⟩)
      have hB11 := hB10.trans (hb11.mono hB10.size)
      have hT11 := htop1.out w11 hB11
      clear hT10
      go_wp2_with fail
      ((refine hT11.mono ?_); rintro r12 w12 ⟨rfl, hb12⟩)
      have hB12 := hB11.trans (hb12.mono hB11.size)
      clear hT11
      go_wp2_with fail
      go_returns
      exact ⟨rfl, hB12⟩
    · rw [if_neg hzy] at hEY
      have hbY := hid (build_no hs9 hy9 hEY (by decide))
      clear hs9 hx9 hy9 hEY hzy
      go_wp2_with fail
      ((refine hbY.out.mono ?_); rintro r10 w10 ⟨wb, wd, rfl, hb10⟩)
      have hB10 := hB9.trans (hb10.mono hB9.size)
      have hT10 := htop1.out w10 hB10
      clear g0 g1 g2 g3 h0 h1 h2 h3 hbY
      go_wp2_with fail
      ((refine hT10.mono ?_); rintro r11 w11 ⟨rfl, hb11⟩)
      have hB11 := hB10.trans (hb11.mono hB10.size)
      have hT11 := htop1.out w11 hB11
      clear hT10
      go_wp2_with fail
      ((refine hT11.mono ?_); rintro r12 w12 ⟨rfl, hb12⟩)
      have hB12 := hB11.trans (hb12.mono hB11.size)
      clear hT11
      go_wp2_with fail
      go_returns
      exact ⟨rfl, hB12⟩

theorem row_lenS {w : World} {v : Value} {n : Nat} {l : List Int} (h : Row w 1 v n (l.map (Value.int .i64))) : Row w 1 v l.length (l.map (Value.int .i64)) := by
  have : l.length = n := by have := h.len; simpa using this
  rw [this]; exact h
theorem law_BuildOnce (u v : Value) (n m : Nat) (tl vl : List Int) (T : Int) (o : Value) (n2 : Nat) (ol : List Int) (w : World) (hl : LaidE w) (hu : Row w 1 u n (tl.map (Value.int .i64))) (hv : Row w 1 v m (vl.map (Value.int .i64)))
    (hub : ∀ z ∈ tl, -9223372036854775808 ≤ z ∧ z ≤ 9223372036854775807) (hvb : ∀ z ∈ vl, -9223372036854775808 ≤ z ∧ z ≤ 9223372036854775807) (hT : -9223372036854775808 ≤ T ∧ T ≤ 9223372036854775807) (ho : Row w 1 o n2 (ol.map (Value.int .i64))) (hob : ∀ z ∈ ol, -9223372036854775808 ≤ z ∧ z ≤ 9223372036854775807) :
    Calls Tryd.prog 7 #[.agg #[u, v, .int .i64 T], o] w fun r w' => r = .returned (.bool true) ∧ Below w.heap.size w w' :=
  bonce_walk u v o T tl vl ol w hl (row_lenS hu) (row_lenS hv) (row_lenS ho) hub hvb hT hob
end SLBOnce

end Go.Proofs.YtogaclolodlnbaaDoor


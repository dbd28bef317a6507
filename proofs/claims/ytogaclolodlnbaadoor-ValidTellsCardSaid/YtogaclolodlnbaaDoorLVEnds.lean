/- ValidEnds: whatever words there are, it ends, and claims no more than there are, and 240; what is right claims fewer than there are. -/
import Derived.Test.YtogaclolodlnbaaDoorVSpoilt
set_option linter.unusedVariables false
set_option linter.unusedSimpArgs false
namespace Go.Proofs.YtogaclolodlnbaaDoor
section SLVEnds
open Go.RowKit

set_option maxRecDepth 100000 in
set_option maxHeartbeats 8000000 in
theorem vends_any {s : Schema} {ws : List (BitVec 64)} {sv : Value} {a : Option Addr} {cap L : Nat} {w : World} (hr : rightB s = true) (hl : LaidE w) (hs : Sch w sv s) (hw : Row w 1 (.slice a L cap) ws.length (ws.map U)) (hL : ws.length = L) (h1000 : L ≤ 1000) :
    Calls Tryd.prog 22 #[sv, .slice a L cap] w fun r w' => r = .returned (.bool true) ∧ Below w.heap.size w w' := by
  have hall := allW_ends hr ws
  obtain ⟨⟨e, p, n⟩, hA⟩ : ∃ r, allW s ws = r := ⟨_, rfl⟩
  rw [hA, hL] at hall
  simp only at hall
  obtain ⟨h240, h0, h1⟩ := hall
  have hct := hid (checkTop_any hl hs hw hA)
  have hc0 := hid fun W hW => (hct.out W hW).1
  have hv := hid (hct.out w (Below.refl _ _)).2
  have n1 : (e != 1) = true := by rw [bne_iff_ne]; exact h1
  have hn0 : (0 : Int) ≤ (n : Int) := by omega
  have hn240 : (n : Int) ≤ (L : Int) + 240 := by omega
  clear hs hw hA hct hL
  by_cases he : e = 0
  · have hnL : (n : Int) < (L : Int) := by have := h0 he; omega
    subst he
    clear h0 h1 n1
    go_enter Tryd.func22, Tryd.ntmps22
    go_wp2_with fail
    ((refine hv.out.mono ?_); rintro r w1 ⟨rfl, hb1, -⟩)
    go_wp2_with fail
    ((refine (hc0.out w1 hb1).mono ?_); rintro r w2 ⟨u, rfl, -, hb2, ht⟩)
    go_wp2_with fail
    ((refine ht.mono ?_); rintro r w3 ⟨rfl, hb3, -⟩)
    go_wp2_with fail
    go_returns
    exact ⟨rfl, hb3⟩
  · have n0 : (e != 0) = true := by rw [bne_iff_ne]; exact he
    clear h0 h1 he
    go_enter Tryd.func22, Tryd.ntmps22
    go_wp2_with fail
    ((refine hv.out.mono ?_); rintro r w1 ⟨rfl, hb1, -⟩)
    go_wp2_with fail
    ((refine (hc0.out w1 hb1).mono ?_); rintro r w2 ⟨u, rfl, -, hb2, ht⟩)
    go_wp2_with fail
    ((refine ht.mono ?_); rintro r w3 ⟨rfl, hb3, -⟩)
    go_wp2_with fail
    go_returns
    exact ⟨rfl, hb3⟩
theorem row_cutU {w : World} {a : Option Addr} {n cap k : Nat} {l : List (BitVec 64)} (h : Row w 1 (.slice a n cap) n (l.map U)) (hn : l.length = n) (hk : k ≤ n) : Row w 1 (.slice a k cap) (l.take k).length ((l.take k).map U) := by
  have := h.cut k hk
  rw [Nat.mul_one, ← List.map_take] at this
  rw [show (l.take k).length = k by rw [List.length_take]; omega]
  exact this

set_option maxRecDepth 100000 in
set_option maxHeartbeats 16000000 in
theorem vends_walk (rv : Value) (N : Nat) (rl : List (BitVec 64)) (u v : Value) (T : Int) (tl vl : List Int) (h0 a0 b0 : Int) (x0 : BitVec 64) (h1 a1 b1 : Int) (x1 : BitVec 64) (h2 a2 b2 : Int) (x2 : BitVec 64) (w : World) (hl : LaidE w) (hraw : Row w 1 rv N (rl.map U)) (hu : Row w 1 u tl.length (tl.map (Value.int .i64))) (hv : Row w 1 v vl.length (vl.map (Value.int .i64)))
    (hub : ∀ z ∈ tl, -9223372036854775808 ≤ z ∧ z ≤ 9223372036854775807) (hvb : ∀ z ∈ vl, -9223372036854775808 ≤ z ∧ z ≤ 9223372036854775807) (hT : -9223372036854775808 ≤ T ∧ T ≤ 9223372036854775807) (hat0 : -9223372036854775808 ≤ a0 ∧ a0 ≤ 9223372036854775807) (hat1 : -9223372036854775808 ≤ a1 ∧ a1 ≤ 9223372036854775807) (hat2 : -9223372036854775808 ≤ a2 ∧ a2 ≤ 9223372036854775807) :
    Calls Tryd.prog 4 #[rv, .agg #[u, v, .int .i64 T], .agg #[.int .i64 h0, .int .i64 a0, .int .i64 b0, U x0, .int .i64 h1, .int .i64 a1, .int .i64 b1, U x1, .int .i64 h2, .int .i64 a2, .int .i64 b2, U x2]] w fun r w' => r = .returned (.bool true) ∧ Below w.heap.size w w' := by
  have hNl : rl.length = N := by have := hraw.len; simpa using this
  obtain ⟨ra, rc, rfl, hrc, hrcm, -⟩ := hraw.open
  unfold maxLen at hrcm
  obtain ⟨au, cu, hue, -⟩ := hu.open
  obtain ⟨av, cv, hve, -⟩ := hv.open
  obtain ⟨w1, hw1, hb1, hlt1, hbox1⟩ := boxed w #[u, v, .int .i64 T] 24
  obtain ⟨w2, hw2, hb2, hlt2, hbox2⟩ := boxed w1 #[.int .i64 h0, .int .i64 a0, .int .i64 b0, U x0, .int .i64 h1, .int .i64 a1, .int .i64 b1, U x1, .int .i64 h2, .int .i64 a2, .int .i64 b2, U x2] 41
  have q0 := (hb2.cell hlt1).trans (hbox1 0)
  have q1 := (hb2.cell hlt1).trans (hbox1 1)
  have q2 := (hb2.cell hlt1).trans (hbox1 2)
  have y0 := hbox2 0
  have y1 := hbox2 1
  have y2 := hbox2 2
  have y3 := hbox2 3
  have y4 := hbox2 4
  have y5 := hbox2 5
  have y6 := hbox2 6
  have y7 := hbox2 7
  have y8 := hbox2 8
  have y9 := hbox2 9
  have y10 := hbox2 10
  have y11 := hbox2 11
  simp only [List.getElem?_toArray, List.getElem?_cons_succ, List.getElem?_cons_zero] at q0 q1 q2 y0 y1 y2 y3 y4 y5 y6 y7 y8 y9 y10 y11
  have Hbox := hid hbox2
  have hb12 := via hb1 hb2
  have hl2 := LaidE.below hl hb12 (LaidE.pos hl)
  have hspec := hid fun W (hW : Below w.heap.size w W) => spec8_any 4 5 (by omega) rfl u v T tl vl W (hu.below hW (Nat.le_refl _)) (hv.below hW (Nat.le_refl _)) hub hvb hT
  subst hue hve
  have HLaid := hid hl
  have Hraw := hid hraw
  clear hu hv hub hvb hbox1 hbox2 hl hraw
  by_cases h60 : 60 < N
  · have h60' : (60 : Int) < (N : Int) := by omega
    have hrc60 : (60 : Int) ≤ (rc : Int) := by omega
    obtain ⟨K, hK⟩ : ∃ K, K = 60 := ⟨_, rfl⟩
    have hRS := hid fun W (hW : Below w.heap.size w W) => row_cutU (k := 60) (Hraw.out.below hW (Nat.le_refl _)) hNl (by omega)
    have hKlen : (rl.take 60).length = 60 := by rw [List.length_take]; omega
    clear hNl
    go_enter Tryd.func4, Tryd.ntmps4
    go_wp2_with fail
    ((refine (awake08 _ hl2).mono ?_); rintro r3 w3 ⟨rfl, hb23⟩)
    replace q0 := (hb23.cell (Nat.lt_of_lt_of_le hlt1 hb2.size)).trans q0
    replace q1 := (hb23.cell (Nat.lt_of_lt_of_le hlt1 hb2.size)).trans q1
    replace q2 := (hb23.cell (Nat.lt_of_lt_of_le hlt1 hb2.size)).trans q2
    have hb13 := via hb12 hb23
    clear hw1 hw2
    go_wp2_with fail
    ((refine (hspec.out _ hb13).mono ?_); rintro r4 w4 ⟨sv, wv, s, ws, rfl, hb34, hs, hr, hrow, hmsg⟩)
    have hb14 := via hb13 hb34
    have h200 := (msg_all hr hmsg).1
    have hB4 := hid hb14
    have HR := hid fun W (hW : Below w.heap.size w W) => hRS.out W hW
    have hl4 := hid fun W (hW : Below w.heap.size w W) => LaidE.below HLaid.out hW (LaidE.pos HLaid.out)
    have Hs := hid fun W (hW : Below w4.heap.size w4 W) => hs.below hW (Nat.le_refl _)
    have Hcell := hid fun W (hW : Below w4.heap.size w4 W) (j : Nat) => show W.cell? ⟨w1.heap.size, j, none⟩ = (#[.int .i64 h0, .int .i64 a0, .int .i64 b0, U x0, .int .i64 h1, .int .i64 a1, .int .i64 b1, U x1, .int .i64 h2, .int .i64 a2, .int .i64 b2, U x2] : Array Value)[j]? from (hW.cell (p := ⟨w1.heap.size, j, none⟩) (Nat.lt_of_lt_of_le (Nat.lt_of_lt_of_le hlt2 hb23.size) hb34.size)).trans ((hb34.cell (p := ⟨w1.heap.size, j, none⟩) (Nat.lt_of_lt_of_le hlt2 hb23.size)).trans ((hb23.cell (p := ⟨w1.heap.size, j, none⟩) hlt2).trans (Hbox.out j)))
    clear hmsg hspec hb13 hs q0 q1 q2 y0 y1 y2 y3 y4 y5 y6 y7 y8 y9 y10 y11
    go_wp2_with fail
    go_loopw [9, 10] (fun wv' iv wr => ∃ (i : Nat) (ys : List (BitVec 64)), i ≤ 3 ∧ iv = .int .i64 i ∧ Row wr 1 wv' ys.length (ys.map U) ∧ ys.length ≤ 200 ∧ Below w4.heap.size w4 wr) (fun _ iv _ => 3 - (intOf iv).toNat)
    case atStart => exact ⟨0, ws, by omega, rfl, hrow, h200, Below.refl _ _⟩
    case round =>
      clear hrow h200
      obtain ⟨i, ys, hi3, rfl, hrow, h200, hbl⟩ := hrel
      have hcl := Hcell.out _ hbl
      rcases (show i = 0 ∨ i = 1 ∨ i = 2 ∨ i = 3 by omega) with rfl | rfl | rfl | rfl
      · have c0 := hcl 0
        have c1 := hcl 1
        have c2 := hcl 2
        have c3 := hcl 3
        simp only [List.getElem?_toArray, List.getElem?_cons_succ, List.getElem?_cons_zero] at c0 c1 c2 c3
        have hsp := hid (vspoilt_any _ ys h0 a0 b0 x0 wr hrow (by omega) hat0)
        clear hrow hcl
        go_wp2_with fail
        ((refine hsp.out.mono ?_); rintro r5 w5 ⟨yv, zs, rfl, hz, hzr, hb5⟩)
        have hfin := hid (show zs.length ≤ 200 ∧ Row w5 1 yv zs.length (zs.map U) ∧ Below w4.heap.size w4 w5 from ⟨by omega, hzr, via hbl hb5⟩)
        clear hzr hb5 hbl c0 c1 c2 c3
        go_wp2_with fail
        go_roundw
        case rel => exact ⟨1, zs, by omega, by go_num, hfin.out.2.1, hfin.out.1, hfin.out.2.2⟩
        case measure => simp [intOf]
      · have c0 := hcl 4
        have c1 := hcl 5
        have c2 := hcl 6
        have c3 := hcl 7
        simp only [List.getElem?_toArray, List.getElem?_cons_succ, List.getElem?_cons_zero] at c0 c1 c2 c3
        have hsp := hid (vspoilt_any _ ys h1 a1 b1 x1 wr hrow (by omega) hat1)
        clear hrow hcl
        go_wp2_with fail
        ((refine hsp.out.mono ?_); rintro r5 w5 ⟨yv, zs, rfl, hz, hzr, hb5⟩)
        have hfin := hid (show zs.length ≤ 200 ∧ Row w5 1 yv zs.length (zs.map U) ∧ Below w4.heap.size w4 w5 from ⟨by omega, hzr, via hbl hb5⟩)
        clear hzr hb5 hbl c0 c1 c2 c3
        go_wp2_with fail
        go_roundw
        case rel => exact ⟨2, zs, by omega, by go_num, hfin.out.2.1, hfin.out.1, hfin.out.2.2⟩
        case measure => simp [intOf]
      · have c0 := hcl 8
        have c1 := hcl 9
        have c2 := hcl 10
        have c3 := hcl 11
        simp only [List.getElem?_toArray, List.getElem?_cons_succ, List.getElem?_cons_zero] at c0 c1 c2 c3
        have hsp := hid (vspoilt_any _ ys h2 a2 b2 x2 wr hrow (by omega) hat2)
        clear hrow hcl
        go_wp2_with fail
        ((refine hsp.out.mono ?_); rintro r5 w5 ⟨yv, zs, rfl, hz, hzr, hb5⟩)
        have hfin := hid (show zs.length ≤ 200 ∧ Row w5 1 yv zs.length (zs.map U) ∧ Below w4.heap.size w4 w5 from ⟨by omega, hzr, via hbl hb5⟩)
        clear hzr hb5 hbl c0 c1 c2 c3
        go_wp2_with fail
        go_roundw
        case rel => exact ⟨3, zs, by omega, by go_num, hfin.out.2.1, hfin.out.1, hfin.out.2.2⟩
        case measure => simp [intOf]
      · obtain ⟨ya, yc, rfl, -⟩ := hrow.open
        have hB5 := hB4.out.trans (hbl.mono hB4.out.size)
        have he1 := hid (vends_any hr (hl4.out _ hB5) (Hs.out _ hbl) (HR.out _ hB5) hKlen (by omega))
        have he2 := hid fun W (hW : Below wr.heap.size wr W) => vends_any hr (hl4.out W (via hB5 hW)) (Hs.out W (via hbl hW)) (hrow.below hW (Nat.le_refl _)) rfl (by omega)
        have HB5 := hid hB5
        clear hrow hbl hcl hr hB5
        go_wp2_with fail
        ((refine he1.out.mono ?_); rintro r5 w5 ⟨rfl, hb5⟩)
        go_wp2_with fail
        ((refine (he2.out w5 hb5).mono ?_); rintro r6 w6 ⟨rfl, hb6⟩)
        go_wp2_with fail
        go_returns
        exact ⟨rfl, via (via HB5.out hb5) hb6⟩
  · have h60' : (N : Int) ≤ 60 := by omega
    have hRS := hid fun W (hW : Below w.heap.size w W) => show Row W 1 (.slice ra N rc) rl.length (rl.map U) from by rw [hNl]; exact Hraw.out.below hW (Nat.le_refl _)
    have hKlen := hNl
    clear hNl
    go_enter Tryd.func4, Tryd.ntmps4
    go_wp2_with fail
    ((refine (awake08 _ hl2).mono ?_); rintro r3 w3 ⟨rfl, hb23⟩)
    replace q0 := (hb23.cell (Nat.lt_of_lt_of_le hlt1 hb2.size)).trans q0
    replace q1 := (hb23.cell (Nat.lt_of_lt_of_le hlt1 hb2.size)).trans q1
    replace q2 := (hb23.cell (Nat.lt_of_lt_of_le hlt1 hb2.size)).trans q2
    have hb13 := via hb12 hb23
    clear hw1 hw2
    go_wp2_with fail
    ((refine (hspec.out _ hb13).mono ?_); rintro r4 w4 ⟨sv, wv, s, ws, rfl, hb34, hs, hr, hrow, hmsg⟩)
    have hb14 := via hb13 hb34
    have h200 := (msg_all hr hmsg).1
    have hB4 := hid hb14
    have HR := hid fun W (hW : Below w.heap.size w W) => hRS.out W hW
    have hl4 := hid fun W (hW : Below w.heap.size w W) => LaidE.below HLaid.out hW (LaidE.pos HLaid.out)
    have Hs := hid fun W (hW : Below w4.heap.size w4 W) => hs.below hW (Nat.le_refl _)
    have Hcell := hid fun W (hW : Below w4.heap.size w4 W) (j : Nat) => show W.cell? ⟨w1.heap.size, j, none⟩ = (#[.int .i64 h0, .int .i64 a0, .int .i64 b0, U x0, .int .i64 h1, .int .i64 a1, .int .i64 b1, U x1, .int .i64 h2, .int .i64 a2, .int .i64 b2, U x2] : Array Value)[j]? from (hW.cell (p := ⟨w1.heap.size, j, none⟩) (Nat.lt_of_lt_of_le (Nat.lt_of_lt_of_le hlt2 hb23.size) hb34.size)).trans ((hb34.cell (p := ⟨w1.heap.size, j, none⟩) (Nat.lt_of_lt_of_le hlt2 hb23.size)).trans ((hb23.cell (p := ⟨w1.heap.size, j, none⟩) hlt2).trans (Hbox.out j)))
    clear hmsg hspec hb13 hs q0 q1 q2 y0 y1 y2 y3 y4 y5 y6 y7 y8 y9 y10 y11
    go_wp2_with fail
    go_loopw [9, 10] (fun wv' iv wr => ∃ (i : Nat) (ys : List (BitVec 64)), i ≤ 3 ∧ iv = .int .i64 i ∧ Row wr 1 wv' ys.length (ys.map U) ∧ ys.length ≤ 200 ∧ Below w4.heap.size w4 wr) (fun _ iv _ => 3 - (intOf iv).toNat)
    case atStart => exact ⟨0, ws, by omega, rfl, hrow, h200, Below.refl _ _⟩
    case round =>
      clear hrow h200
      obtain ⟨i, ys, hi3, rfl, hrow, h200, hbl⟩ := hrel
      have hcl := Hcell.out _ hbl
      rcases (show i = 0 ∨ i = 1 ∨ i = 2 ∨ i = 3 by omega) with rfl | rfl | rfl | rfl
      · have c0 := hcl 0
        have c1 := hcl 1
        have c2 := hcl 2
        have c3 := hcl 3
        simp only [List.getElem?_toArray, List.getElem?_cons_succ, List.getElem?_cons_zero] at c0 c1 c2 c3
        have hsp := hid (vspoilt_any _ ys h0 a0 b0 x0 wr hrow (by omega) hat0)
        clear hrow hcl
        go_wp2_with fail
        ((refine hsp.out.mono ?_); rintro r5 w5 ⟨yv, zs, rfl, hz, hzr, hb5⟩)
        have hfin := hid (show zs.length ≤ 200 ∧ Row w5 1 yv zs.length (zs.map U) ∧ Below w4.heap.size w4 w5 from ⟨by omega, hzr, via hbl hb5⟩)
        clear hzr hb5 hbl c0 c1 c2 c3
        go_wp2_with fail
        go_roundw
        case rel => exact ⟨1, zs, by omega, by go_num, hfin.out.2.1, hfin.out.1, hfin.out.2.2⟩
        case measure => simp [intOf]
      · have c0 := hcl 4
        have c1 := hcl 5
        have c2 := hcl 6
        have c3 := hcl 7
        simp only [List.getElem?_toArray, List.getElem?_cons_succ, List.getElem?_cons_zero] at c0 c1 c2 c3
        have hsp := hid (vspoilt_any _ ys h1 a1 b1 x1 wr hrow (by omega) hat1)
        clear hrow hcl
        go_wp2_with fail
        ((refine hsp.out.mono ?_); rintro r5 w5 ⟨yv, zs, rfl, hz, hzr, hb5⟩)
        have hfin := hid (show zs.length ≤ 200 ∧ Row w5 1 yv zs.length (zs.map U) ∧ Below w4.heap.size w4 w5 from ⟨by omega, hzr, via hbl hb5⟩)
        clear hzr hb5 hbl c0 c1 c2 c3
        go_wp2_with fail
        go_roundw
        case rel => exact ⟨2, zs, by omega, by go_num, hfin.out.2.1, hfin.out.1, hfin.out.2.2⟩
        case measure => simp [intOf]
      · have c0 := hcl 8
        have c1 := hcl 9
        have c2 := hcl 10
        have c3 := hcl 11
        simp only [List.getElem?_toArray, List.getElem?_cons_succ, List.getElem?_cons_zero] at c0 c1 c2 c3
        have hsp := hid (vspoilt_any _ ys h2 a2 b2 x2 wr hrow (by omega) hat2)
        clear hrow hcl
        go_wp2_with fail
        ((refine hsp.out.mono ?_); rintro r5 w5 ⟨yv, zs, rfl, hz, hzr, hb5⟩)
        have hfin := hid (show zs.length ≤ 200 ∧ Row w5 1 yv zs.length (zs.map U) ∧ Below w4.heap.size w4 w5 from ⟨by omega, hzr, via hbl hb5⟩)
        clear hzr hb5 hbl c0 c1 c2 c3
        go_wp2_with fail
        go_roundw
        case rel => exact ⟨3, zs, by omega, by go_num, hfin.out.2.1, hfin.out.1, hfin.out.2.2⟩
        case measure => simp [intOf]
      · obtain ⟨ya, yc, rfl, -⟩ := hrow.open
        have hB5 := hB4.out.trans (hbl.mono hB4.out.size)
        have he1 := hid (vends_any hr (hl4.out _ hB5) (Hs.out _ hbl) (HR.out _ hB5) hKlen (by omega))
        have he2 := hid fun W (hW : Below wr.heap.size wr W) => vends_any hr (hl4.out W (via hB5 hW)) (Hs.out W (via hbl hW)) (hrow.below hW (Nat.le_refl _)) rfl (by omega)
        have HB5 := hid hB5
        clear hrow hbl hcl hr hB5
        go_wp2_with fail
        ((refine he1.out.mono ?_); rintro r5 w5 ⟨rfl, hb5⟩)
        go_wp2_with fail
        ((refine (he2.out w5 hb5).mono ?_); rintro r6 w6 ⟨rfl, hb6⟩)
        go_wp2_with fail
        go_returns
        exact ⟨rfl, via (via HB5.out hb5) hb6⟩

theorem law_ValidEnds (rv : Value) (N : Nat) (rl : List (BitVec 64)) (u v : Value) (n m : Nat) (tl vl : List Int) (T : Int) (h0 a0 b0 : Int) (x0 : BitVec 64) (h1 a1 b1 : Int) (x1 : BitVec 64) (h2 a2 b2 : Int) (x2 : BitVec 64) (w : World) (hl : LaidE w) (hraw : Row w 1 rv N (rl.map U)) (hu : Row w 1 u n (tl.map (Value.int .i64))) (hv : Row w 1 v m (vl.map (Value.int .i64)))
    (hub : ∀ z ∈ tl, -9223372036854775808 ≤ z ∧ z ≤ 9223372036854775807) (hvb : ∀ z ∈ vl, -9223372036854775808 ≤ z ∧ z ≤ 9223372036854775807) (hT : -9223372036854775808 ≤ T ∧ T ≤ 9223372036854775807) (hat0 : -9223372036854775808 ≤ a0 ∧ a0 ≤ 9223372036854775807) (hat1 : -9223372036854775808 ≤ a1 ∧ a1 ≤ 9223372036854775807) (hat2 : -9223372036854775808 ≤ a2 ∧ a2 ≤ 9223372036854775807) :
    Calls Tryd.prog 4 #[rv, .agg #[u, v, .int .i64 T], .agg #[.int .i64 h0, .int .i64 a0, .int .i64 b0, U x0, .int .i64 h1, .int .i64 a1, .int .i64 b1, U x1, .int .i64 h2, .int .i64 a2, .int .i64 b2, U x2]] w fun r w' => r = .returned (.bool true) ∧ Below w.heap.size w w' :=
  vends_walk rv N rl u v T tl vl h0 a0 b0 x0 h1 a1 b1 x1 h2 a2 b2 x2 w hl hraw (row_lenS hu) (row_lenS hv) hub hvb hT hat0 hat1 hat2
end SLVEnds

end Go.Proofs.YtogaclolodlnbaaDoor


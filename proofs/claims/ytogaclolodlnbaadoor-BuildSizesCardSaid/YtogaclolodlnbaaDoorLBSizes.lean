/- BuildSizes: a message has as many words as is told of its struct; its first word says so, and its type. -/
import Derived.Test.YtogaclolodlnbaaDoorAw7
import Derived.Test.YtogaclolodlnbaaDoorMadeB2
set_option linter.unusedVariables false
set_option linter.unusedSimpArgs false
namespace Go.Proofs.YtogaclolodlnbaaDoor
section SLBSizes
open Go.RowKit

theorem words_first {w : World} {a : Option Addr} {n c : Nat} {ws : List (BitVec 64)} {x : BitVec 64} (h : Row w 1 (.slice a n c) ws.length (ws.map U)) (hx : ws[0]? = some x) : ∃ b off, a = some ⟨b, off, none⟩ ∧ b < w.heap.size ∧ w.cell? ⟨b, off, none⟩ = some (U x) := by
  have hlt := (List.getElem?_eq_some_iff.1 hx).1
  obtain ⟨b, off, cap, e, h2, h3, h4, h5⟩ := h.cons (by omega)
  simp only [Value.slice.injEq] at e
  refine ⟨b, off, e.1, h4, ?_⟩
  have := h5 0 (by omega)
  rw [Nat.add_zero, List.getElem?_map, hx] at this
  exact this

set_option maxRecDepth 100000 in
set_option maxHeartbeats 8000000 in
theorem bsizes_walk (u v : Value) (T : Int) (tl vl : List Int) (w : World) (hl : LaidE w) (hu : Row w 1 u tl.length (tl.map (Value.int .i64))) (hv : Row w 1 v vl.length (vl.map (Value.int .i64)))
    (hub : ∀ z ∈ tl, -9223372036854775808 ≤ z ∧ z ≤ 9223372036854775807) (hvb : ∀ z ∈ vl, -9223372036854775808 ≤ z ∧ z ≤ 9223372036854775807) (hT : -9223372036854775808 ≤ T ∧ T ≤ 9223372036854775807) :
    Calls Tryd.prog 9 #[.agg #[u, v, .int .i64 T]] w fun r w' => r = .returned (.bool true) ∧ Below w.heap.size w w' := by
  obtain ⟨au, cu, hue, -⟩ := hu.open
  obtain ⟨av, cv, hve, -⟩ := hv.open
  obtain ⟨w1, hw1, hb1, hlt1, hbox1⟩ := boxed w #[u, v, .int .i64 T] 46
  have q0 : w1.cell? ⟨w.heap.size, 0, none⟩ = some u := hbox1 0
  have q1 : w1.cell? ⟨w.heap.size, 1, none⟩ = some v := hbox1 1
  have q2 : w1.cell? ⟨w.heap.size, 2, none⟩ = some (.int .i64 T) := hbox1 2
  have hl1 := LaidE.below hl hb1 (LaidE.pos hl)
  have hspec := hid fun W (hW : Below w.heap.size w W) => spec7_any 4 5 (by omega) rfl u v T tl vl W (hu.below hW (Nat.le_refl _)) (hv.below hW (Nat.le_refl _)) hub hvb hT
  subst hue hve
  have HLaid := hid hl
  clear hu hv hub hvb hbox1 hl
  go_enter Tryd.func9, Tryd.ntmps9
  go_wp2_with fail
  ((refine (awake07 _ hl1).mono ?_); rintro r2 w2 ⟨rfl, hb2⟩)
  replace q0 := (hb2.cell hlt1).trans q0
  replace q1 := (hb2.cell hlt1).trans q1
  replace q2 := (hb2.cell hlt1).trans q2
  have hb12 := via hb1 hb2
  clear hw1
  go_wp2_with fail
  ((refine (hspec.out _ hb12).mono ?_); rintro r3 w3 ⟨sv, s, t, x0, x1, x2, x3, X, rfl, hb3, hs, hr, ht, hs4, hrd, hfit⟩)
  obtain ⟨a2, p2, a, cap, hcs, -, -, -, -, -⟩ := RdN.open hrd
  simp only [List.cons.injEq] at hcs
  obtain ⟨rfl, rfl, rfl, rfl, -⟩ := hcs
  have hb13 := via hb12 hb3
  clear hspec q0 q1 q2 hb2 hb3 hl1 hb12 hb1
  have hcode := fit_code s 5 5 t X hfit (by omega)
  have hC0 : checkC s 5 t X = 0 := by rw [checkC, if_pos ⟨hr, by omega, by omega⟩]; exact hcode
  have hsz0 : sizeT s 5 t X = 1 + wordsT 5 X := by rw [sizeT, if_pos hC0]
  have hlie := build_lie hcode
  obtain ⟨z, hz⟩ : ∃ z, z = 1 + wordsT 5 X := ⟨_, rfl⟩
  rw [← hz] at hsz0 hlie
  obtain ⟨sa, scap, hsv, -⟩ := hs.shape
  obtain ⟨sn, hsn⟩ : ∃ n, n = s.length := ⟨_, rfl⟩
  rw [← hsn] at hsv
  subst hsv
  obtain ⟨w4, hw4, hb4, hz4, hD⟩ := TB.make w3 (U (Node.num X)) (.string (Node.bytes X)) (.slice a2 (Node.nums X).length p2) (.slice a (Node.kids X).length cap) 49
  have hby := hid fun hE => build_yes (t := (t : Int)) (hs.below hb4 (Nat.le_refl _)) (hrd.below hb4 (Nat.le_refl _)) hE
  have hbn := hid fun x hE hx => build_no (t := (t : Int)) (hs.below hb4 (Nat.le_refl _)) (hrd.below hb4 (Nat.le_refl _)) (x := x) hE hx
  have hsize := hid fun W (hW : Below w3.heap.size w3 W) => rsize_any s (.slice sa sn scap) 5 t X _ W (hs.below hW (Nat.le_refl _)) (hrd.below hW (Nat.le_refl _))
  rw [hsz0] at hsize
  have k0 := hD.c0
  have k1 := hD.c1
  have k2 := hD.c2
  have k3 := hD.c3
  have HD := hid fun W (hW : Below w4.heap.size w4 W) => hD.below hW
  have HLaidW := hid fun W (hW : Below w.heap.size w W) => LaidE.below HLaid.out hW (LaidE.pos HLaid.out)
  have Hlie := hid hlie
  have Hz := hid hz
  have hz0 : 0 < z := by omega
  have HC0 := hid hC0
  have Hlt : t < sn := by rw [hsn]; exact ht
  have hs4' : sn ≤ 4 := by rw [hsn]; exact hs4
  have hpart := hid fun (x : BitVec 64) W => part_any x W
  clear hs hrd hD hlie hz hC0 hsz0 hcode hfit hsn ht hs4 hz4
  by_cases hz2 : z ≤ 200
  · have hE : buildE s 4 t X = 0 := by rw [buildE, if_pos HC0.out, if_pos (by rw [← Hz.out]; exact hz2)]
    have hbuild := hid (hby.out hE)
    have htop := hid fun W (hW : Below w.heap.size w W) => top_err 0 W (HLaidW.out W hW)
    rw [show ErrV 0 = .nilIface from rfl] at htop
    have hzd : (z : Int) ≤ 200 := by omega
    have hlo : loV (refV (z : Int) (t : Int)) = (z : Int) := by rw [lo_ref]; omega
    have hhi : hiV (refV (z : Int) (t : Int)) = (t : Int) := by rw [hi_ref]; omega
    have hzz : ((z : Int) == (z : Int)) = true := by simp
    have htt : ((t : Int) == (t : Int)) = true := by simp
    clear hE hby hbn
    go_wp2_with fail
    ((refine hbuild.out.mono ?_); rintro r5 w5 ⟨wv, rfl, hrow, hb5⟩)
    rw [Hlie.out.1] at hrow
    obtain ⟨wa, wc, rfl, -⟩ := hrow.open
    obtain ⟨bw, offw, rfl, hbw, hcw⟩ := words_first (by rw [Hlie.out.1]; exact hrow) Hlie.out.2.1
    have hB5 := via hb4 hb5
    obtain ⟨_, j0, j1, j2, j3, _⟩ := HD.out w5 hb5
    clear k0 k1 k2 k3 hw4 hbuild hrow
    go_wp2_with fail
    ((refine (hsize.out _ hB5).mono ?_); rintro r6 w6 ⟨rfl, hb6⟩)
    have hB6 := via hB5 hb6
    replace hcw := (hb6.cell hbw).trans hcw
    have hT6 := htop.out w6 (hb13.trans (hB6.mono hb13.size))
    clear j0 j1 j2 j3 hsize
    go_wp2_with fail
    ((refine hT6.mono ?_); rintro r7 w7 ⟨rfl, hb7⟩)
    have hB7 := via hB6 hb7
    replace hcw := (hb7.cell (Nat.lt_of_lt_of_le hbw hb6.size)).trans hcw
    clear hT6
    go_wp2_with fail
    ((refine (hpart.out _ _).mono ?_); rintro r8 w7 ⟨rfl, rfl⟩)
    rw [hlo, hhi]
    go_wp2_with fail
    go_returns
    exact ⟨rfl, hb13.trans (hB7.mono hb13.size)⟩
  · have hE : buildE s 4 t X = 21 := by rw [buildE, if_pos HC0.out, if_neg (by rw [← Hz.out]; exact hz2)]
    have hbuild := hid (hbn.out 21 hE (by decide))
    have htop := hid fun W (hW : Below w.heap.size w W) => top_err 21 W (HLaidW.out W hW)
    rw [errV_ne (show (21 : Int) ≠ 0 by decide)] at htop
    have hzd : (200 : Int) < (z : Int) := by omega
    clear hE hby hbn
    go_wp2_with fail
    ((refine hbuild.out.mono ?_); rintro r5 w5 ⟨wa, wc, rfl, hb5⟩)
    have hB5 := via hb4 hb5
    obtain ⟨_, j0, j1, j2, j3, _⟩ := HD.out w5 hb5
    clear k0 k1 k2 k3 hw4 hbuild
    go_wp2_with fail
    ((refine (hsize.out _ hB5).mono ?_); rintro r6 w6 ⟨rfl, hb6⟩)
    have hB6 := via hB5 hb6
    have hT6 := htop.out w6 (hb13.trans (hB6.mono hb13.size))
    clear j0 j1 j2 j3 hsize
    go_wp2_with fail
    ((refine hT6.mono ?_); rintro r7 w7 ⟨rfl, hb7⟩)
    have hB7 := via hB6 hb7
    clear hT6
    go_wp2_with fail
    go_returns
    exact ⟨rfl, hb13.trans (hB7.mono hb13.size)⟩

theorem row_lenS {w : World} {v : Value} {n : Nat} {l : List Int} (h : Row w 1 v n (l.map (Value.int .i64))) : Row w 1 v l.length (l.map (Value.int .i64)) := by
  have : l.length = n := by have := h.len; simpa using this
  rw [this]; exact h
theorem law_BuildSizes (u v : Value) (n m : Nat) (tl vl : List Int) (T : Int) (w : World) (hl : LaidE w) (hu : Row w 1 u n (tl.map (Value.int .i64))) (hv : Row w 1 v m (vl.map (Value.int .i64)))
    (hub : ∀ z ∈ tl, -9223372036854775808 ≤ z ∧ z ≤ 9223372036854775807) (hvb : ∀ z ∈ vl, -9223372036854775808 ≤ z ∧ z ≤ 9223372036854775807) (hT : -9223372036854775808 ≤ T ∧ T ≤ 9223372036854775807) :
    Calls Tryd.prog 9 #[.agg #[u, v, .int .i64 T]] w fun r w' => r = .returned (.bool true) ∧ Below w.heap.size w w' :=
  bsizes_walk u v T tl vl w hl (row_lenS hu) (row_lenS hv) hub hvb hT
end SLBSizes

end Go.Proofs.YtogaclolodlnbaaDoor


/- LookBack: what was built is decoded, the same, of the same type. -/
import Derived.Test.YtogaclolodlnbaaDoorKMade
import Derived.Test.YtogaclolodlnbaaDoorLkDec
import Derived.Test.YtogaclolodlnbaaDoorLook2
import Derived.Test.YtogaclolodlnbaaDoorGn
import Derived.Test.YtogaclolodlnbaaDoorValB
set_option linter.unusedVariables false
set_option linter.unusedSimpArgs false
namespace Go.Proofs.YtogaclolodlnbaaDoor
section SLKBack
open Go.RowKit

/-- What was built, and decoded. -/
theorem dec_made {s : Schema} {t : Nat} {X : St 5} (hr : rightB s = true) (ht : t < s.length) (hf : FitT s 5 t X) (hL : ¬ (buildL s 4 t X).length = 0) : (allW s (buildL s 4 t X)).1 = 0 ∧ decT s (buildL s 4 t X) = t ∧ decV s (buildL s 4 t X) = X := by
  have hcode := fit_code s 5 5 t X hf (Nat.le_refl _)
  have hC0 : checkC s 5 t X = 0 := by rw [checkC, if_pos ⟨hr, by omega, by omega⟩]; exact hcode
  have hE : buildE s 4 t X = 0 := by
    by_cases h : buildE s 4 t X = 0
    · exact h
    · exfalso; apply hL; rw [buildL, if_neg h]; rfl
  have hb : buildL s 4 t X = buildW s 4 t X := by rw [buildL, if_pos hE]
  have hl : (buildW s 4 t X).length ≤ 200 := by
    rw [(build_lie hcode).1]
    rw [buildE, if_pos hC0] at hE
    split at hE
    · next h => exact h
    · cases hE
  have hs8 : s.length ≤ 8 := by unfold rightB at hr; simp only [Bool.and_eq_true, decide_eq_true_eq] at hr; exact hr.1.2
  have hall := allW_built hr ht hcode hl
  obtain ⟨h1, h2⟩ := dec_built ht hs8 hcode hl
  rw [hb]
  have h0 : (allW s (buildW s 4 t X)).1 = 0 := by rw [hall]
  exact ⟨h0, by rw [decT, if_pos h0, h1], by have e : decV s (buildW s 4 t X) = decS s (buildW s 4 t X) 4 (hiN ((buildW s 4 t X).getD 0 0#64) : Nat) 1 := if_pos h0; rw [e, h1]; exact h2⟩

set_option maxRecDepth 100000 in
set_option maxHeartbeats 8000000 in
theorem lkback_walk (u v : Value) (T : Int) (tl vl : List Int) (w : World) (hu : Row w 1 u tl.length (tl.map (Value.int .i64))) (hv : Row w 1 v vl.length (vl.map (Value.int .i64)))
    (hub : ∀ z ∈ tl, -9223372036854775808 ≤ z ∧ z ≤ 9223372036854775807) (hvb : ∀ z ∈ vl, -9223372036854775808 ≤ z ∧ z ≤ 9223372036854775807) (hT : -9223372036854775808 ≤ T ∧ T ≤ 9223372036854775807) :
    Calls Tryd.prog 13 #[.agg #[u, v, .int .i64 T]] w fun r w' => r = .returned (.bool true) ∧ Below w.heap.size w w' := by
  obtain ⟨au, cu, hue, -⟩ := hu.open
  obtain ⟨av, cv, hve, -⟩ := hv.open
  obtain ⟨w1, hw1, hb1, hlt1, hbox1⟩ := boxed w #[u, v, .int .i64 T] 74
  have q0 : w1.cell? ⟨w.heap.size, 0, none⟩ = some u := hbox1 0
  have q1 : w1.cell? ⟨w.heap.size, 1, none⟩ = some v := hbox1 1
  have q2 : w1.cell? ⟨w.heap.size, 2, none⟩ = some (.int .i64 T) := hbox1 2
  have hspec := hid fun W (hW : Below w.heap.size w W) => spec9_any 4 5 (by omega) rfl u v T tl vl W (hu.below hW (Nat.le_refl _)) (hv.below hW (Nat.le_refl _)) hub hvb hT
  subst hue hve
  clear hu hv hub hvb hbox1
  go_enter Tryd.func13, Tryd.ntmps13
  go_wp2_with fail
  ((refine (awake09 _).mono ?_); rintro r2 w2 ⟨rfl, hb2⟩)
  replace q0 := (hb2.cell hlt1).trans q0
  replace q1 := (hb2.cell hlt1).trans q1
  replace q2 := (hb2.cell hlt1).trans q2
  have hb12 := via hb1 hb2
  clear hw1
  go_wp2_with fail
  ((refine (hspec.out _ hb12).mono ?_); rintro r3 w3 ⟨sv, wv, x0, x1, x2, x3, s, t, X, rfl, hb3, hs, hr, ht, hrd, hft, hrow⟩)
  obtain ⟨y0, y1, a2, m2, p2, a3, m3, p3, hcs⟩ := form_S 5 _ _ _ hrd
  simp only [List.cons.injEq] at hcs
  obtain ⟨rfl, rfl, rfl, rfl, _⟩ := hcs
  have hb13 := via hb12 hb3
  clear hspec q0 q1 q2 hb2 hb3 hb12 hb1
  obtain ⟨w4, hw4, hb4, hz4, hV4⟩ := TB.make w3 (.int .u64 0) (.string ⟨#[]⟩) (.slice none 0 0) (.slice none 0 0) 49
  obtain ⟨V, hVe4⟩ : ∃ V, w3.heap.size = V := ⟨_, rfl⟩
  rw [hVe4] at hV4
  have ⟨_, v0, v1, v2, v3, vf⟩ := hV4
  have vf0 := vf 0
  have vf1 := vf 1
  have vf2 := vf 2
  have vf3 := vf 3
  obtain ⟨w5, hx4⟩ : ∃ w5, w5 = (((w4.setCell ⟨V, 0, none⟩ (U y0)).setCell ⟨V, 1, none⟩ (.string y1)).setCell ⟨V, 2, none⟩ (.slice a2 m2 p2)).setCell ⟨V, 3, none⟩ (.slice a3 m3 p3) := ⟨_, rfl⟩
  have hV4 : TB w5 V (U y0) (.string y1) (.slice a2 m2 p2) (.slice a3 m3 p3) := by rw [hx4]; exact (((hV4.set0 _).set1 _).set2 _).set3 _
  have hVl4 : w3.heap.size ≤ V := Nat.le_of_eq hVe4
  have hbb4 : Below w3.heap.size w3 w5 := by
    rw [hx4]
    exact (((hb4.setCell (p := ⟨V, 0, none⟩) hVl4 _).setCell (p := ⟨V, 1, none⟩) hVl4 _).setCell (p := ⟨V, 2, none⟩) hVl4 _).setCell (p := ⟨V, 3, none⟩) hVl4 _
  have hx4' := hx4.symm
  clear hx4 hb4 hz4 vf
  have Hdec := hid (dec_made hr ht hft)
  have Hrd := hid fun W (hW : Below w3.heap.size w3 W) => hrd.below hW (Nat.le_refl _)
  have Hld := hid fun W (hW : Below w3.heap.size w3 W) => ldecode_any s (buildL s 4 t X) sv wv W (hs.below hW (Nat.le_refl _)) (hrow.below hW (Nat.le_refl _))
  obtain ⟨wa, wc, rfl, -⟩ := hrow.open
  obtain ⟨sa, scap, hsv, -⟩ := hs.shape
  obtain ⟨ns, hns⟩ : ∃ ns, ns = s.length := ⟨_, rfl⟩
  rw [← hns] at hsv
  subst hsv
  obtain ⟨ws, hws⟩ : ∃ ws, ws = buildL s 4 t X := ⟨_, rfl⟩
  rw [← hws] at Hdec Hld ⊢
  obtain ⟨L, hL⟩ : ∃ L, L = ws.length := ⟨_, rfl⟩
  rw [← hL] at Hdec Hld ⊢
  clear hrd hs hrow hft hr hws hns ht
  by_cases hL0 : L = 0
  · have hLz : ((L : Int) == 0) = true := by rw [hL0]; rfl
    go_wp2_with fail
    go_returns
    exact ⟨rfl, via hb13 hbb4⟩
  · have hLz : ((L : Int) == 0) = false := by rw [beq_eq_false_iff_ne]; omega
    obtain ⟨h0, hT', hV'⟩ := Hdec.out hL0
    have H0 := hid h0
    have hld := hid (Hld.out w5 hbb4)
    unfold DecodeP at hld
    rw [hT', hV'] at hld
    clear hT' hV' h0 hL
    go_wp2_with fail
    clear v0 v1 v2 v3 vf0 vf1 vf2 vf3
    ((refine hld.out.mono ?_); rintro r6 w6 ⟨k0, k1, k2, k3, e, rfl, hE, hb6, hkw⟩)
    obtain rfl := errW_zero hE H0.out
    obtain ⟨z0, z1, b2, n2, q2, b3, n3, q3, hcs⟩ := form_S 5 _ _ _ hkw.now
    simp only [List.cons.injEq] at hcs
    obtain ⟨rfl, rfl, rfl, rfl, _⟩ := hcs
    clear hld hE
    obtain ⟨w7, hw7, hb7, hz7, hV7⟩ := TB.make w6 (.int .u64 0) (.string ⟨#[]⟩) (.slice none 0 0) (.slice none 0 0) 49
    obtain ⟨Vx, hVe7⟩ : ∃ Vx, w6.heap.size = Vx := ⟨_, rfl⟩
    rw [hVe7] at hV7
    have ⟨_, v0, v1, v2, v3, vf⟩ := hV7
    have vf0 := vf 0
    have vf1 := vf 1
    have vf2 := vf 2
    have vf3 := vf 3
    obtain ⟨w8, hx7⟩ : ∃ w8, w8 = (((w7.setCell ⟨Vx, 0, none⟩ (U z0)).setCell ⟨Vx, 1, none⟩ (.string z1)).setCell ⟨Vx, 2, none⟩ (.slice b2 n2 q2)).setCell ⟨Vx, 3, none⟩ (.slice b3 n3 q3) := ⟨_, rfl⟩
    have hV7 : TB w8 Vx (U z0) (.string z1) (.slice b2 n2 q2) (.slice b3 n3 q3) := by rw [hx7]; exact (((hV7.set0 _).set1 _).set2 _).set3 _
    have hVl7 : w6.heap.size ≤ Vx := Nat.le_of_eq hVe7
    have hbb7 : Below w6.heap.size w6 w8 := by
      rw [hx7]
      exact (((hb7.setCell (p := ⟨Vx, 0, none⟩) hVl7 _).setCell (p := ⟨Vx, 1, none⟩) hVl7 _).setCell (p := ⟨Vx, 2, none⟩) hVl7 _).setCell (p := ⟨Vx, 3, none⟩) hVl7 _
    have hx7' := hx7.symm
    clear hx7 hb7 hz7 vf
    have hb36 := via hbb4 hb6
    have hb38 := via hb36 hbb7
    have hV8 := hV4.below (via hb6 hbb7)
    have hrx : RdS 5 w8 [(U z0), (.string z1), (.slice b2 n2 q2), (.slice b3 n3 q3)] X := (hkw.below hbb7).now
    have hrv : RdS 5 w8 [(U y0), (.string y1), (.slice a2 m2 p2), (.slice a3 m3 p3)] X := Hrd.out w8 hb38
    have heq : eqB X X = true := eqB_yes rfl
    have hsame := hid (rsame_S 5 X X _ _ w8 hrx hrv)
    have hsame2 := hid fun W (hW : Below w8.heap.size w8 W) => same_S 5 X X _ _ W (hrx.below hW (Nat.le_refl _)) (hrv.below hW (Nat.le_refl _))
    rw [heq] at hsame hsame2
    have HV8 := hid fun W (hW : Below w8.heap.size w8 W) => hV8.below hW
    have HV7 := hid fun W (hW : Below w8.heap.size w8 W) => hV7.below hW
    have ⟨_, c0, c1, c2, c3, _⟩ := hV8
    have ⟨_, d0, d1, d2, d3, _⟩ := hV7
    clear hrx hrv heq hkw
    go_wp2_with fail
    clear v0 v1 v2 v3 vf0 vf1 vf2 vf3
    ((refine hsame.out.mono ?_); rintro r9 w9 ⟨rfl, hb9⟩)
    clear c0 c1 c2 c3 d0 d1 d2 d3
    go_wp2_with fail
    ((refine (top_nil _).mono ?_); rintro r10 w10 ⟨rfl, hb10⟩)
    have hb810 := via hb9 hb10
    have ⟨_, c0, c1, c2, c3, _⟩ := HV8.out _ hb810
    have ⟨_, d0, d1, d2, d3, _⟩ := HV7.out _ hb810
    go_wp2_with fail
    ((refine (hsame2.out _ hb810).mono ?_); rintro r11 w11 ⟨rfl, hb11⟩)
    go_wp2_with fail
    go_returns
    exact ⟨rfl, via hb13 (via hb38 (via hb810 hb11))⟩

theorem row_lenS9 {w : World} {v : Value} {n : Nat} {l : List Int} (h : Row w 1 v n (l.map (Value.int .i64))) : Row w 1 v l.length (l.map (Value.int .i64)) := by
  have : l.length = n := by have := h.len; simpa using this
  rw [this]; exact h
theorem law_LookBack (u v : Value) (n m : Nat) (tl vl : List Int) (T : Int) (w : World) (hl : LaidE w) (hu : Row w 1 u n (tl.map (Value.int .i64))) (hv : Row w 1 v m (vl.map (Value.int .i64)))
    (hub : ∀ z ∈ tl, -9223372036854775808 ≤ z ∧ z ≤ 9223372036854775807) (hvb : ∀ z ∈ vl, -9223372036854775808 ≤ z ∧ z ≤ 9223372036854775807) (hT : -9223372036854775808 ≤ T ∧ T ≤ 9223372036854775807) :
    Calls Tryd.prog 13 #[.agg #[u, v, .int .i64 T]] w fun r w' => r = .returned (.bool true) ∧ Below w.heap.size w w' :=
  lkback_walk u v T tl vl w (row_lenS9 hu) (row_lenS9 hv) hub hvb hT
end SLKBack

end Go.Proofs.YtogaclolodlnbaaDoor


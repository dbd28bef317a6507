/- Built as the document says: one struct. -/
import Derived.Test.YtogaclolodlnbaaDoorAw7
set_option linter.unusedVariables false
set_option linter.unusedSimpArgs false
namespace Go.Proofs.YtogaclolodlnbaaDoor
section STells7
open Go.RowKit

set_option maxRecDepth 100000 in
set_option maxHeartbeats 8000000 in
theorem tells7_any (s : Schema) (sv : Value) (d : Nat) (t : Int) (v : St (d + 1)) (cs : List Value) (w : World) (hl : LaidE w) (hs : Sch w sv s) (h : RdS (d + 1) w cs v) :
    Calls Tryd.prog 25 #[sv, .int .i64 t, .agg cs.toArray] w fun r w' => r = .returned (.bool true) ∧ Below w.heap.size w w' := by
  obtain ⟨a2, p2, a, cap, hcs, -, -, -, -, -⟩ := RdN.open h
  subst hcs
  obtain ⟨sa, scap, hsv, -⟩ := hs.shape
  obtain ⟨sn, hsn⟩ : ∃ n, n = s.length := ⟨_, rfl⟩
  rw [← hsn] at hsv
  subst hsv
  clear hsn
  obtain ⟨w1, hw1, hb1, hz1, hV⟩ := TB.make w (U (Node.num v)) (.string (Node.bytes v)) (.slice a2 (Node.nums v).length p2) (.slice a (Node.kids v).length cap) 49
  have Hbl := hid fun W (hW : Below w.heap.size w W) => build_any s _ d t v _ W (hs.below hW (Nat.le_refl _)) (h.below hW (Nat.le_refl _))
  have Hrb := hid fun W (hW : Below w.heap.size w W) => rbuild_any s _ d t v _ W (hs.below hW (Nat.le_refl _)) (h.below hW (Nat.le_refl _))
  have Htop := hid fun W (hW : Below w.heap.size w W) => top_err (buildE s d t v) W (LaidE.below hl hW (LaidE.pos hl))
  have ⟨lt1, v0, v1, v2, v3, _⟩ := hV
  have HV := hid hV
  clear hV hs h hz1 hl
  obtain ⟨E, hE⟩ : ∃ E, E = buildE s d t v := ⟨_, rfl⟩
  obtain ⟨L, hL⟩ : ∃ L, L = buildL s d t v := ⟨_, rfl⟩
  unfold BuildP at Hbl
  unfold RBuildP at Hrb
  rw [← hE, ← hL] at Hbl Hrb
  rw [← hE] at Htop
  clear hE hL
  have hb01 := hid hb1
  have HB := hid (Hbl.out w1 hb1)
  clear hb1
  go_enter Tryd.func25, Tryd.ntmps25
  go_wp2_with fail
  clear hw1
  ((refine HB.out.mono ?_); rintro r2 w2 ⟨wa, rfl, hra, hb2⟩)
  obtain ⟨_, y0, y1, y2, y3, _⟩ := HV.out.below hb2
  have hb12 := via hb01.out hb2
  have hR := Hrb.out w2 hb12
  obtain ⟨aa, ac, rfl, -⟩ := hra.open
  clear v0 v1 v2 v3 HB Hbl
  go_wp2_with fail
  ((refine hR.mono ?_); rintro r3 w3 ⟨wb, rfl, hrb, hb3⟩)
  have hb13 := via hb12 hb3
  obtain ⟨ba, bc, rfl, -⟩ := hrb.open
  have hsame := same_any _ _ _ _ _ _ _ (hra.below hb3 (Nat.le_refl _)) hrb
  rw [show (L == L) = true by simp] at hsame
  clear y0 y1 y2 y3 hR hra hrb
  go_wp2_with fail
  ((refine hsame.mono ?_); rintro r4 w4 ⟨rfl, k, rfl⟩)
  have hb14 := hb13.trans (below_drewN _ _ k)
  have hT := Htop.out _ hb14
  clear hsame
  generalize World.drewN _ k = w4 at *
  go_wp2_with fail
  ((refine hT.mono ?_); rintro r5 w5 ⟨rfl, hb5⟩)
  have hb15 := via hb14 hb5
  have hEE : (E == E) = true := by simp
  clear hT
  go_wp2_with fail
  go_returns
  exact ⟨by first | rfl | rw [hEE], hb15⟩
end STells7

end Go.Proofs.YtogaclolodlnbaaDoor


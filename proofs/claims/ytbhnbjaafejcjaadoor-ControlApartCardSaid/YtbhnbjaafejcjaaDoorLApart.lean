/- intagliolaw13.ControlApart: the walk. -/
import Derived.Test.YtbhnbjaafejcjaaDoorPlCtl2
import Derived.Test.YtbhnbjaafejcjaaDoorRefCtl2
set_option linter.unusedVariables false
namespace Go.Proofs.YtbhnbjaafejcjaaDoor
open Go.RowKit

theorem held5b {w W W' : World} {D : Nat} {v0 v1 v2 v3 v4 : Value} (h : W.cell? ⟨D, 0, none⟩ = some v0 ∧ W.cell? ⟨D, 1, none⟩ = some v1 ∧ W.cell? ⟨D, 2, none⟩ = some v2 ∧ W.cell? ⟨D, 3, none⟩ = some v3 ∧ W.cell? ⟨D, 4, none⟩ = some v4 ∧ D < W.heap.size ∧ Below w.heap.size w W) : Below w.heap.size w W := held5_end h

set_option maxRecDepth 100000 in
set_option maxHeartbeats 4000000 in
theorem apart_walk_TT (x B X Y G A N : BitVec 64) (p g ec fc xe xg xb ye yg yb ae ag ab ge gg gb : Int) (xl xu yl yu al au gl gu : Bool) (er fr : Value) (w : World) (hl : LaidE w)
    (hxg : 0 ≤ xg ∧ xg ≤ 2147483647)
    (hmod : wrap64 (1 + (wrap64 (g.tmod 65535 + 65535)).tmod 65535) = p)
    (cB : ∀ w, Calls Tryd.prog 25 #[U x] w fun r w' => r = .returned (U B) ∧ Below w.heap.size w w')
    (cX : ∀ w, Calls Tryd.prog 26 #[U B] w fun r w' => r = .returned (.tuple #[U X, er]) ∧ Below w.heap.size w w')
    (cY : ∀ w, Calls Tryd.prog 27 #[U x, .int .i64 p] w fun r w' => r = .returned (.tuple #[U Y, fr]) ∧ Below w.heap.size w w')
    (cG : ∀ w, Calls Tryd.prog 29 #[U x] w fun r w' => r = .returned (U G) ∧ Below w.heap.size w w')
    (cA : ∀ w, Calls Tryd.prog 28 #[U G] w fun r w' => r = .returned (U A) ∧ Below w.heap.size w w')
    (cN : ∀ w, Calls Tryd.prog 28 #[U x] w fun r w' => r = .returned (U N) ∧ Below w.heap.size w w')
    (ux : ∀ w, Calls Tryd.prog 30 #[U x] w fun r w' => r = .returned (CV xe xg xb xl xu) ∧ Below w.heap.size w w')
    (uy : ∀ w, Calls Tryd.prog 30 #[U Y] w fun r w' => r = .returned (CV ye yg yb yl yu) ∧ Below w.heap.size w w')
    (ua : ∀ w, Calls Tryd.prog 30 #[U A] w fun r w' => r = .returned (CV ae ag ab true au) ∧ Below w.heap.size w w')
    (ug : ∀ w, Calls Tryd.prog 30 #[U G] w fun r w' => r = .returned (CV ge gg gb false gu) ∧ Below w.heap.size w w')
    (te : ∀ w, LaidE w → Calls Tryd.prog 13 #[er] w fun r w' => r = .returned (.int .i64 ec) ∧ Below w.heap.size w w')
    (tf : ∀ w, LaidE w → Calls Tryd.prog 13 #[fr] w fun r w' => r = .returned (.int .i64 fc) ∧ Below w.heap.size w w')
    (e1 : (ec == 0) = true) (e2 : (X == x) = false) (e3 : (X == B) = false) (e4 : (!xl) = false) (f1 : (fc == 0) = true) (f2 : (Y == x) = false) (f3 : (yb != p) = false) (f4 : (yg != IntKind.i64.wrap (xg + 1)) = false) (f5 : (yg != xg + 1) = false)
    (hG : (G != x) = true) (hAN : (A != N) = true) (hAx : (A != x) = true) :
    Calls Tryd.prog 7 #[U x, .int .i64 g] w fun r w' => r = .returned (.bool true) ∧ Below w.heap.size w w' := by
  have h0 := hl.pos
  have hbl := Below.refl w.heap.size w
  unfold CV at ux uy ua ug
  go_enter Tryd.func7, Tryd.ntmps7
  go_wp2_with (first
    | (go_at_call 24; (with_reducible refine (awake13 _).mono ?_); rintro r w1 ⟨rfl, hb⟩; replace hbl := via (w := w) hbl hb; clear hb)
    | (go_at_call 25; (with_reducible refine (cB _).mono ?_); rintro r w1 ⟨rfl, hb⟩; replace hbl := via (w := w) hbl hb; clear hb)
    | (go_at_call 26; (with_reducible refine (cX _).mono ?_); rintro r w1 ⟨rfl, hb⟩; replace hbl := via (w := w) hbl hb; clear hb)
    | (go_at_call 27; (with_reducible refine (cY _).mono ?_); rintro r w1 ⟨rfl, hb⟩; replace hbl := via (w := w) hbl hb; clear hb)
    | (go_at_call 29; (with_reducible refine (cG _).mono ?_); rintro r w1 ⟨rfl, hb⟩; replace hbl := via (w := w) hbl hb; clear hb)
    | (go_at_call 28; (first | (with_reducible refine (cA _).mono ?_) | (with_reducible refine (cN _).mono ?_)); rintro r w1 ⟨rfl, hb⟩; replace hbl := via (w := w) hbl hb; clear hb)
    | (go_at_call 30; (with_reducible refine (ux _).mono ?_); rintro r w1 ⟨rfl, hb⟩; replace hbl := via (w := w) hbl hb; clear hb))
  have bx := Box.mk' w1 xe xg xb xl xu 57
  replace hbl := hbl.alloc hbl.size (.cells #[.int .i64 xe, .int .i64 xg, .int .i64 xb, .bool xl, .bool xu] 57)
  generalize w1.alloc (.cells #[.int .i64 xe, .int .i64 xg, .int .i64 xb, .bool xl, .bool xu] 57) = w2 at *
  generalize w1.heap.size = D at *
  obtain ⟨dl, c0, c1, c2, c3, c4⟩ := bx
  go_region_held3 (fun W => W.cell? ⟨D, 0, none⟩ = some (.int .i64 xe) ∧ W.cell? ⟨D, 1, none⟩ = some (.int .i64 xg) ∧ W.cell? ⟨D, 2, none⟩ = some (.int .i64 xb) ∧ W.cell? ⟨D, 3, none⟩ = some (.bool xl) ∧ W.cell? ⟨D, 4, none⟩ = some (.bool xu) ∧ D < W.heap.size ∧ Below w.heap.size w W)
    (first | exact ⟨c0, c1, c2, c3, c4, dl, hbl.trans (below_drewN _ _ 1)⟩ | exact held5 (by assumption) hb3)
    (first
    | (go_at_call 13; (first | (with_reducible refine (te _ (hl.below (held5_end (by assumption)) h0)).mono ?_) | (with_reducible refine (tf _ (hl.below (held5_end (by assumption)) h0)).mono ?_)); rintro r w10 ⟨rfl, hb3⟩)
    | (go_at_call 30; (with_reducible refine (uy _).mono ?_); rintro r w11 ⟨rfl, hb3⟩))
  all_goals
    replace hbl := held5_end (w := w) (by assumption)
    go_wp2_with (first
      | (go_at_call 29; (with_reducible refine (cG _).mono ?_); rintro r w3 ⟨rfl, hb⟩; replace hbl := via (w := w) hbl hb; clear hb)
      | (go_at_call 28; (with_reducible refine (cN _).mono ?_); rintro r w3 ⟨rfl, hb⟩; replace hbl := via (w := w) hbl hb; clear hb)
      | (go_at_call 30; (first | (with_reducible refine (ua _).mono ?_) | (with_reducible refine (ug _).mono ?_)); rintro r w3 ⟨rfl, hb⟩; replace hbl := via (w := w) hbl hb; clear hb))
    go_ret
    exact ⟨rfl, hbl⟩
end Go.Proofs.YtbhnbjaafejcjaaDoor


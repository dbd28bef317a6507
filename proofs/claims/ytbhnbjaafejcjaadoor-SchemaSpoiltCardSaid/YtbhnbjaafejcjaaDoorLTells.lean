/- SchemaTells: the walks. -/
import Derived.Test.YtbhnbjaafejcjaaDoorLBack
import Derived.Test.YtbhnbjaafejcjaaDoorRPack
import Derived.Test.YtbhnbjaafejcjaaDoorRField
import Derived.Test.YtbhnbjaafejcjaaDoorRDeep2
import Derived.Deep.RegionHeld3
set_option linter.unusedVariables false
namespace Go.Proofs.YtbhnbjaafejcjaaDoor
open Go.RowKit

theorem cell_below {W W' : World} {p : Addr} {v : Value} (h : W.cell? p = some v) (hb : Below W.heap.size W W') : W'.cell? p = some v := (hb.cell (World.block_lt_of_cell? W p h)).trans h
theorem kept4 {W0 W W' : World} {p1 p2 p3 p4 : Addr} {v1 v2 v3 v4 : Value} (h : W.cell? p1 = some v1 ∧ W.cell? p2 = some v2 ∧ W.cell? p3 = some v3 ∧ W.cell? p4 = some v4 ∧ Below W0.heap.size W0 W) (hb : Below W.heap.size W W') :
    W'.cell? p1 = some v1 ∧ W'.cell? p2 = some v2 ∧ W'.cell? p3 = some v3 ∧ W'.cell? p4 = some v4 ∧ Below W0.heap.size W0 W' := by
  obtain ⟨h1, h2, h3, h4, h5⟩ := h
  exact ⟨cell_below h1 hb, cell_below h2 hb, cell_below h3 hb, cell_below h4 hb, h5.trans (hb.mono h5.size)⟩
theorem kept4_end {W0 W : World} {p1 p2 p3 p4 : Addr} {v1 v2 v3 v4 : Value} (h : W.cell? p1 = some v1 ∧ W.cell? p2 = some v2 ∧ W.cell? p3 = some v3 ∧ W.cell? p4 = some v4 ∧ Below W0.heap.size W0 W) : Below W0.heap.size W0 W := h.2.2.2.2

theorem pack5_any (s : Schema) (v : Value) (w : World) (hs : Sch w v s) : Calls Tryd.prog 15 #[v] w (PackP s w) := by
  cases h : rightB s
  · exact pack5_no s v w hs h
  · exact pack5_yes s v w hs h
theorem rpack5_any (s : Schema) (v : Value) (w : World) (hs : Sch w v s) : Calls Tryd.prog 17 #[v] w fun e w' => ∃ v, e = .returned v ∧ Below w.heap.size w w' ∧ Row w' 1 v (packS s).length ((packS s).map U) := by
  cases h : rightB s
  · exact (rpack5_no s v w hs h).mono fun e w' ⟨u, h1, h2, h3⟩ => ⟨u, h1, h2, Row.of_owns h3⟩
  · exact (rpack5_yes s v w hs h).mono fun e w' ⟨u, h1, h2, h3⟩ => ⟨u, h1, h2, Row.of_owns h3⟩

set_option maxRecDepth 100000 in
set_option maxHeartbeats 8000000 in
theorem tells_any (s : Schema) (v : Value) (q0 q1 : Int) (w : World) (hl : LaidE w) (hs : Sch w v s) :
    Calls Tryd.prog 22 #[v, .agg #[.int .i64 q0, .int .i64 q1]] w fun r w' => r = .returned (.bool true) ∧ Below w.heap.size w w' := by
  have h0 := hl.pos
  obtain ⟨wq, hwq, hbq, hltq, ⟨b0, b1⟩⟩ : ∃ wq, w.alloc (.cells #[.int .i64 q0, .int .i64 q1] 23) = wq ∧ Below w.heap.size w wq ∧ w.heap.size < wq.heap.size ∧ (wq.cell? ⟨w.heap.size, 0, none⟩ = some (.int .i64 q0) ∧ wq.cell? ⟨w.heap.size, 1, none⟩ = some (.int .i64 q1)) :=
    ⟨_, rfl, below_alloc _ _, by simp, by simp [go_sem], by simp [go_sem]⟩
  have hsq := hs.lift hbq
  have hlq := hl.below hbq h0
  have hB := hbq.size
  have cR := fun W (hW : Below wq.heap.size wq W) => rright_any s v W (hsq.below hW (Nat.le_refl _))
  have cF := fun W (hW : Below wq.heap.size wq W) => rfield_any s v q0 q1 W (hsq.below hW (Nat.le_refl _))
  have cP := fun W (hW : Below wq.heap.size wq W) => pack5_any s v W (hsq.below hW (Nat.le_refl _))
  have cQ := fun W (hW : Below wq.heap.size wq W) => rpack5_any s v W (hsq.below hW (Nat.le_refl _))
  have cC := fun W (hW : Below wq.heap.size wq W) => check_any s v W (hsq.below hW (Nat.le_refl _))
  have cN := fun W (hW : Below wq.heap.size wq W) => nfields_any s v q0 W (hsq.below hW (Nat.le_refl _))
  have cM := fun W (hW : Below wq.heap.size wq W) => rfields_any s v q0 W (hsq.below hW (Nat.le_refl _))
  have cK := fun W (hW : Below wq.heap.size wq W) => kind_any s v q0 q1 W (hsq.below hW (Nat.le_refl _))
  have cT := fun W (hW : Below wq.heap.size wq W) => type_any s v q0 q1 W (hsq.below hW (Nat.le_refl _))
  have cD := fun W (hW : Below wq.heap.size wq W) => sdeep_any s v q0 W (hsq.below hW (Nat.le_refl _))
  have cE := fun W (hW : Below wq.heap.size wq W) => rdeep_any s v q0 W (hsq.below hW (Nat.le_refl _))
  have cS := fun u x W p q hp hq => same_any (packS s) (packS s) u x p q W hp hq
  rw [show (packS s == packS s) = true from by simp] at cS
  have cL := fun W (hW : Below wq.heap.size wq W) => hlq.below hW (Nat.lt_of_lt_of_le h0 hB)
  unfold PackP at cP
  generalize packS s = ps at *
  generalize deepV s q0 = dd at *
  generalize (fieldP s q0 q1).1 = fk at *
  generalize (fieldP s q0 q1).2 = ft at *
  generalize (typeL s q0).length = nf at *
  obtain ⟨a, cap, rfl, _⟩ := hs.shape
  have Hb := hid hbq
  clear hs hsq hl hlq h0
  generalize s.length = n at *
  cases hr : rightB s
  all_goals
    simp only [hr, if_true, Bool.false_eq_true, if_false] at cC cR
    go_enter Tryd.func22, Tryd.ntmps22
    have b0' := fun W (hW : Below wq.heap.size wq W) => cell_below b0 hW
    have b1' := fun W (hW : Below wq.heap.size wq W) => cell_below b1 hW
    go_wp2_with (first
      | (go_at_call 47; refine (cR _ (Below.refl _ _)).mono ?_; rintro r1 w1 ⟨rfl, hb1⟩; have d0 := b0' w1 hb1; have d1 := b1' w1 hb1)
      | (go_at_call 50; refine (cF _ hb1).mono ?_; rintro r1 w2 ⟨rfl, hb2⟩; have hb12 := via hb1 hb2))
    obtain ⟨w3, hw3, h23, k0, k1⟩ : ∃ w3, w2.alloc (.cells #[.int .i64 fk, .int .i64 ft] 30) = w3 ∧ Below w2.heap.size w2 w3 ∧ w3.cell? ⟨w2.heap.size, 0, none⟩ = some (.int .i64 fk) ∧ w3.cell? ⟨w2.heap.size, 1, none⟩ = some (.int .i64 ft) :=
      ⟨_, rfl, below_alloc _ _, by simp [go_sem], by simp [go_sem]⟩
    rw [hw3]
    clear hw3 hwq d0 d1
    have hb3 := via hb12 h23
    generalize w2.heap.size = D at k0 k1 ⊢
    clear hb12 hb2 hb1 h23
    ((refine (cP _ hb3).mono ?_); rintro r3 w4 ⟨p1, rfl, h4, hr1⟩)
    have hb4 := via hb3 h4
    replace k0 := cell_below k0 h4
    replace k1 := cell_below k1 h4
    go_wp2_with fail
    ((refine (cQ _ hb4).mono ?_); rintro r3 w5 ⟨p2, rfl, h5, hr2⟩)
    have hb5 := via hb4 h5
    replace k0 := cell_below k0 h5
    replace k1 := cell_below k1 h5
    have hr1' := hr1.lift h5
    clear hb3 hb4 h4 h5 hr1
    go_wp2_with fail
    ((refine (cS _ _ _ _ _ hr1' hr2).mono ?_); rintro r4 w6 ⟨rfl, q, rfl⟩)
    have hb6 := hb5.trans (below_drewN wq.heap.size w5 q)
    replace k0 : (w5.drewN q).cell? ⟨D, 0, none⟩ = some (.int .i64 fk) := k0
    replace k1 : (w5.drewN q).cell? ⟨D, 1, none⟩ = some (.int .i64 ft) := k1
    generalize w5.drewN q = w7 at *
    have d0 := b0' w7 hb6
    have d1 := b1' w7 hb6
    clear hr1' hr2 hb5 cP cQ cS cR cF b0 b1
    go_wp2_with fail
    go_region_held3 (fun W => W.cell? ⟨w.heap.size, 0, none⟩ = some (.int .i64 q0) ∧ W.cell? ⟨w.heap.size, 1, none⟩ = some (.int .i64 q1) ∧ W.cell? ⟨D, 0, none⟩ = some (.int .i64 fk) ∧ W.cell? ⟨D, 1, none⟩ = some (.int .i64 ft) ∧ Below wq.heap.size wq W)
      (first | exact ⟨d0, d1, k0, k1, hb6.trans (below_drewN _ w7 1)⟩ | assumption | exact kept4 (by assumption) hb9)
      (first
      | (go_at_call 14; refine (cC _ (kept4_end (by assumption))).mono ?_; rintro r5 wA ⟨rfl, hb9⟩)
      | (go_at_call 13; (first | refine (top_nil _).mono ?_ | refine (top_code 1 _ (cL _ (kept4_end (by assumption)))).mono ?_); rintro r5 wA ⟨rfl, hb9⟩)
      | (go_at_call 51; refine (cN _ (kept4_end (by assumption))).mono ?_; rintro r5 wA ⟨rfl, rfl⟩)
      | (go_at_call 52; refine (cM _ (kept4_end (by assumption))).mono ?_; rintro r5 wA ⟨rfl, rfl⟩)
      | (go_at_call 53; refine (cK _ (kept4_end (by assumption))).mono ?_; rintro r5 wA ⟨rfl, hb9⟩)
      | (go_at_call 54; refine (cT _ (kept4_end (by assumption))).mono ?_; rintro r5 wA ⟨rfl, hb9⟩)
      | (go_at_call 16; refine (cD _ (kept4_end (by assumption))).mono ?_; rintro r5 wA ⟨rfl, hb9⟩)
      | (go_at_call 55; refine (cE _ (kept4_end (by assumption))).mono ?_; rintro r5 wA ⟨rfl, hb9⟩))
    have hfin := kept4_end (W0 := wq) (W := wA) (by assumption)
    clear cC cN cM cK cT cD cE
    go_wp2_with fail
    go_ret
    exact ⟨rfl, Hb.out.trans (hfin.mono hB)⟩
end Go.Proofs.YtbhnbjaafejcjaaDoor


/- SchemaTells: the law's own walk. -/
import Derived.Test.YtbhnbjaafejcjaaDoorLTells
set_option linter.unusedVariables false
namespace Go.Proofs.YtbhnbjaafejcjaaDoor
open Go.RowKit

theorem kept2 {W0 W W' : World} {p1 p2 : Addr} {v1 v2 : Value} (h : W.cell? p1 = some v1 ∧ W.cell? p2 = some v2 ∧ Below W0.heap.size W0 W) (hb : Below W.heap.size W W') :
    W'.cell? p1 = some v1 ∧ W'.cell? p2 = some v2 ∧ Below W0.heap.size W0 W' := by
  obtain ⟨h1, h2, h5⟩ := h
  exact ⟨cell_below h1 hb, cell_below h2 hb, h5.trans (hb.mono h5.size)⟩
theorem kept2_end {W0 W : World} {p1 p2 : Addr} {v1 v2 : Value} (h : W.cell? p1 = some v1 ∧ W.cell? p2 = some v2 ∧ Below W0.heap.size W0 W) : Below W0.heap.size W0 W := h.2.2

set_option maxRecDepth 100000 in
set_option maxHeartbeats 8000000 in
theorem tells_walk (raw : Schema) (u v : Value) (l : List Int) (q0 q1 : Int) (w : World) (hl : LaidE w) (hu : Sch w u raw) (hv : Row w 1 v l.length (l.map (Value.int .i64)))
    (hbl : ∀ z ∈ l, -9223372036854775808 ≤ z ∧ z ≤ 9223372036854775807) :
    Calls Tryd.prog 6 #[u, v, .agg #[.int .i64 q0, .int .i64 q1]] w fun r w' => r = .returned (.bool true) ∧ Below w.heap.size w w' := by
  have h0 := hl.pos
  obtain ⟨wq, hwq, hbq, hltq, ⟨b0, b1⟩⟩ : ∃ wq, w.alloc (.cells #[.int .i64 q0, .int .i64 q1] 23) = wq ∧ Below w.heap.size w wq ∧ w.heap.size < wq.heap.size ∧ (wq.cell? ⟨w.heap.size, 0, none⟩ = some (.int .i64 q0) ∧ wq.cell? ⟨w.heap.size, 1, none⟩ = some (.int .i64 q1)) :=
    ⟨_, rfl, below_alloc _ _, by simp, by simp [go_sem], by simp [go_sem]⟩
  have huq := hu.lift hbq
  have hvq := hv.lift hbq
  have hlq := hl.below hbq h0
  have hB := hbq.size
  have Hb := hid hbq
  have mA := fun W h => made5 l v W h hbl
  obtain ⟨a, cap, rfl, _⟩ := hu.shape
  generalize madeS l = A at *
  clear hu hv hl hbl
  go_enter Tryd.func6, Tryd.ntmps6
  go_wp2_with (go_at_call 11; refine (awake05 _).mono ?_; rintro r1 w1 ⟨rfl, h1⟩)
  ((refine (mA _ (hvq.lift h1)).mono ?_); rintro r2 w2 ⟨sa, rfl, h2, hsa⟩)
  have hb2 := via h1 h2
  have d0 := cell_below b0 hb2
  have d1 := cell_below b1 hb2
  have cL := fun W (hW : Below w2.heap.size w2 W) => hlq.below (hb2.trans (hW.mono hb2.size)) (Nat.lt_of_lt_of_le h0 hB)
  have cF := fun W (hW : Below w2.heap.size w2 W) => few_any raw _ W (huq.below (hb2.trans (hW.mono hb2.size)) (Nat.le_refl _))
  have cT := fun W (hW : Below w2.heap.size w2 W) p0 p1 => tells_any A sa p0 p1 W (cL W hW) (hsa.below hW (Nat.le_refl _))
  have cU := fun W (hW : Below w2.heap.size w2 W) x (hx : Sch W x (fewS raw)) => tells_any (fewS raw) x q0 q1 W (cL W hW) hx
  clear mA hvq h1 h2 b0 b1 huq hlq
  go_wp2_with fail
  go_region_held3 (fun W => W.cell? ⟨w.heap.size, 0, none⟩ = some (.int .i64 q0) ∧ W.cell? ⟨w.heap.size, 1, none⟩ = some (.int .i64 q1) ∧ Below w2.heap.size w2 W)
    (first | exact ⟨d0, d1, below_drewN _ w2 1⟩ | exact kept2 (by assumption) hb9)
    (first
    | (go_at_call 23; refine (cF _ (kept2_end (by assumption))).mono ?_; rintro r5 wA ⟨x, rfl, hb9, hx⟩)
    | (go_at_call 22; (first | (with_reducible refine (cU _ (kept2_end (by assumption)) _ hx).mono ?_) | (with_reducible refine (cT _ (kept2_end (by assumption)) _ _).mono ?_)); rintro r5 wA ⟨rfl, hb9⟩))
  have hfin := kept2_end (W0 := w2) (W := wA) (by assumption)
  clear cL cF cT cU
  go_wp2_with fail
  go_ret
  exact ⟨rfl, Hb.out.trans ((hb2.trans (hfin.mono hb2.size)).mono hB)⟩

theorem law_SchemaTells (raw : Schema) (u : Value) (v : Value) (k : Nat) (l : List Int) (q0 q1 : Int) (w : World) (hl : LaidE w) (hu : Sch w u raw) (hv : Row w 1 v k (l.map (Value.int .i64)))
    (hbl : ∀ z ∈ l, -9223372036854775808 ≤ z ∧ z ≤ 9223372036854775807) :
    Calls Tryd.prog 6 #[u, v, .agg #[.int .i64 q0, .int .i64 q1]] w fun r w' => r = .returned (.bool true) ∧ Below w.heap.size w w' :=
  tells_walk raw u v l q0 q1 w hl hu (row_len hv) hbl
end Go.Proofs.YtbhnbjaafejcjaaDoor


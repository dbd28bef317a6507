/- look.Walk: the walk of the chapter's example; of no walk nothing comes. -/
import Derived.Test.YtblbhlgihlgncaaDoorGb
import Derived.Test.YtblbhlgihlgncaaDoorGc
import Derived.Test.YtblbhlgihlgncaaDoorGa
import Derived.Deep.QuietTactic
import Derived.BigQuiet
import Derived.IntWalk
import Derived.Handy
import Derived.Deep.RegionHeld3
set_option linter.unusedVariables false
set_option linter.unusedSimpArgs false
namespace Go.Proofs.YtblbhlgihlgncaaDoor
section SLook
open Go.RowKit

/-- A walk in its box. -/
structure WK (w : World) (B : Nat) (v0 v1 v2 v3 v4 v5 v6 : Value) : Prop where
  lt : B < w.heap.size
  c0 : w.cell? ⟨B, 0, none⟩ = some v0
  c1 : w.cell? ⟨B, 1, none⟩ = some v1
  c2 : w.cell? ⟨B, 2, none⟩ = some v2
  c3 : w.cell? ⟨B, 3, none⟩ = some v3
  c4 : w.cell? ⟨B, 4, none⟩ = some v4
  c5 : w.cell? ⟨B, 5, none⟩ = some v5
  c6 : w.cell? ⟨B, 6, none⟩ = some v6
  fz : ∀ j, w.frozen? ⟨B, j, none⟩ = false

/-- What a call that turns a walk answers. -/
def WkP (w : World) (B : Nat) (v0 v1 v2 v3 v4 v5 v6 : Value) (r : Ending) (w' : World) : Prop :=
  r = .returned (.tuple #[]) ∧ WK w' B v0 v1 v2 v3 v4 v5 v6 ∧ w.grownBy w' (some B)

theorem end_any (w : World) (B : Nat) (v0 v1 v2 v3 v4 v5 v6 : Value) (x : Int) (c : Int) (h : WK w B v0 v1 v2 v3 v4 v5 v6) :
    Calls Tryd.prog 44 #[.pointer (some ⟨B, 0, none⟩), .int .u64 x, .int .i64 c] w (WkP w B v0 v1 v2 (.int .i64 (-1)) v4 (.int .u64 x) (.int .i64 c)) := by
  obtain ⟨lt, c0, c1, c2, c3, c4, c5, c6, fz⟩ := h
  have f3 := fz 3
  have f5 := fz 5
  have f6 := fz 6
  have Fz := hid fz
  clear fz
  go_enter Tryd.func44, Tryd.ntmps44
  go_wp2
  go_end0
  refine And.intro rfl (And.intro ?_ ?_)
  · refine WK.mk ?_ ?_ ?_ ?_ ?_ ?_ ?_ ?_ (fun j => ?_)
    · simpa using lt
    · simp [go_sem, c0]
    · simp [go_sem, c1]
    · simp [go_sem, c2]
    · simp [go_sem, c3]
    · simp [go_sem, c4]
    · simp [go_sem, c5]
    · simp [go_sem, c6]
    · simp [go_sem, Fz.out]
  · have g1 := grown_set (World.grownBy.refl w (some B)) (p := ⟨B, 3, none⟩) (.inr rfl) (.int .i64 (-1))
    have g2 := grown_set g1 (p := ⟨B, 5, none⟩) (.inr rfl) (.int .u64 x)
    exact grown_set g2 (p := ⟨B, 6, none⟩) (.inr rfl) (.int .i64 c)

/-- Give: of no walk; of one that asks for no word; of one that asks for a number. -/
theorem give_nil (x : Value) (w : World) : Calls Tryd.prog 23 #[.pointer none, x] w fun r w' => r = .returned (.tuple #[]) ∧ w' = w := by
  go_enter Tryd.func23, Tryd.ntmps23
  go_wp2
  (first | go_end0 | refine bodyPost_ret (results_none rfl _ _ _) rfl ?_)
  exact ⟨rfl, rfl⟩
theorem next_nil (w : World) : Calls Tryd.prog 22 #[.pointer none] w fun r w' => r = .returned (.tuple #[.int .i64 0, .bool false]) ∧ w' = w := by
  go_enter Tryd.func22, Tryd.ntmps22
  go_wp2
  go_returns
  exact ⟨rfl, rfl⟩
theorem next_ask (w : World) (B : Nat) (k : Int) (hk : (k == -1) = false) (c3 : w.cell? ⟨B, 3, none⟩ = some (.int .i64 k)) : Calls Tryd.prog 22 #[.pointer (some ⟨B, 0, none⟩)] w fun r w' => r = .returned (.tuple #[.int .i64 k, .bool true]) ∧ w' = w := by
  go_enter Tryd.func22, Tryd.ntmps22
  go_wp2
  go_returns
  exact ⟨rfl, rfl⟩
theorem told_nil (w : World) : Calls Tryd.prog 24 #[.pointer none] w fun r w' => r = .returned (.tuple #[.int .u64 0, .iface 37 (.int .i64 1)]) ∧ w' = w := by
  go_enter Tryd.func24, Tryd.ntmps24
  go_wp2
  go_returns
  exact ⟨rfl, rfl⟩
theorem new_zero (w : World) : Calls Tryd.prog 16 #[.int .i64 0] w fun r w' => r = .returned .nilIface ∧ w' = w := by
  go_enter Tryd.func16, Tryd.ntmps16
  go_wp2
  go_returns
  exact ⟨rfl, rfl⟩
theorem told_ok (w : World) (B : Nat) (x : Int) (c3 : w.cell? ⟨B, 3, none⟩ = some (.int .i64 (-1))) (c5 : w.cell? ⟨B, 5, none⟩ = some (.int .u64 x)) (c6 : w.cell? ⟨B, 6, none⟩ = some (.int .i64 0)) :
    Calls Tryd.prog 24 #[.pointer (some ⟨B, 0, none⟩)] w fun r w' => r = .returned (.tuple #[.int .u64 x, .nilIface]) ∧ Below w.heap.size w w' := by
  have hnew := new_zero
  go_enter Tryd.func24, Tryd.ntmps24
  go_wp2_with fail
  go_quiet ((go_at_call 16; exact Calls.quiet_of_same (hnew _)))
  go_wp2_with fail
  go_returns
  exact ⟨rfl, below_drewN _ _ _⟩
theorem part_one (w : World) : Calls Tryd.prog 69 #[.int .u64 8589934593] w fun r w' => r = .returned (.tuple #[.int .i64 1, .int .i64 2]) ∧ w' = w := by
  go_enter Tryd.func69, Tryd.ntmps69
  go_wp2
  go_returns
  exact ⟨rfl, rfl⟩

theorem setcells {w : World} {B : Nat} {v0 v1 v2 v3 v4 v5 v6 : Value} (h : WK w B v0 v1 v2 v3 v4 v5 v6) (x : Value) :
    WK (w.setCell ⟨B, 1, none⟩ x) B v0 x v2 v3 v4 v5 v6 ∧ WK (w.setCell ⟨B, 2, none⟩ x) B v0 v1 x v3 v4 v5 v6 ∧ WK (w.setCell ⟨B, 3, none⟩ x) B v0 v1 v2 x v4 v5 v6 ∧ WK (w.setCell ⟨B, 4, none⟩ x) B v0 v1 v2 v3 x v5 v6 := by
  obtain ⟨lt, c0, c1, c2, c3, c4, c5, c6, fz⟩ := h
  refine And.intro ?_ (And.intro ?_ (And.intro ?_ ?_)) <;> refine WK.mk ?_ ?_ ?_ ?_ ?_ ?_ ?_ ?_ (fun j => ?_) <;> simp [go_sem, lt, c0, c1, c2, c3, c4, c5, c6, fz]

theorem WK.drewN {w : World} {B : Nat} {v0 v1 v2 v3 v4 v5 v6 : Value} (h : WK w B v0 v1 v2 v3 v4 v5 v6) (k : Nat) : WK (w.drewN k) B v0 v1 v2 v3 v4 v5 v6 :=
  ⟨h.lt, h.c0, h.c1, h.c2, h.c3, h.c4, h.c5, h.c6, h.fz⟩

set_option maxHeartbeats 1000000 in
theorem enter_any (s : Schema) (sv : Value) (t at_ p0 : Int) (b off m c : Nat) (w : World) (B : Nat) (v1 v3 v4 v5 v6 : Value) (h : WK w B sv v1 (.slice (some ⟨b, off, none⟩) m c) v3 v4 v5 v6)
    (hm : 1 ≤ m) (hs : ∀ W, w.grownBy W (some B) → Sch W sv s) (hb : b ≠ B) (hc : w.cell? ⟨b, off, none⟩ = some (.int .i64 p0)) (h0 : 0 ≤ p0) (h1 : p0 < (typeL s t).length) (ha : 0 ≤ at_ ∧ at_ ≤ 1000000) (hp : p0 ≤ 1000000) :
    Calls Tryd.prog 43 #[.pointer (some ⟨B, 0, none⟩), .int .i64 t, .int .i64 at_] w (WkP w B sv (.int .i64 t) (.slice (some ⟨b, off, none⟩) m c) (.int .i64 (at_ + p0)) v4 v5 v6) := by
  have g1 := grown_set (World.grownBy.refl w (some B)) (p := ⟨B, 1, none⟩) (.inr rfl) (.int .i64 t)
  have h1w := (setcells h (.int .i64 t)).1
  have hcw : (w.setCell ⟨B, 1, none⟩ (.int .i64 t)).cell? ⟨b, off, none⟩ = some (.int .i64 p0) := by rw [World.cell?_setCell_other _ _ _ _ (by simp [hb])]; exact hc
  have hf := fun n => nfields_any s sv t ((w.setCell ⟨B, 1, none⟩ (.int .i64 t)).drewN n) (hs _ (grown_below g1 (below_drewN _ _ n)))
  have f1 := h.fz 1
  have x1 := h.c1
  have hlen : (0 : Int) ≤ (typeL s t).length := by omega
  generalize (typeL s t).length = n at *
  have hd0 : decide (p0 < 0) = false := decide_eq_false (by omega)
  have hd1 : decide ((n : Int) ≤ p0) = false := decide_eq_false (by omega)
  have hm0 : ((m : Int) == 0) = false := by rw [beq_eq_false_iff_ne]; omega
  have hm1 : 0 < m := hm
  have hwr : IntKind.i64.wrap (at_ + p0) = at_ + p0 := IntWalk.i64_in _ (by omega)
  clear hc h hs hm
  go_enter Tryd.func43, Tryd.ntmps43
  go_wp2_with fail
  generalize w.setCell ⟨B, 1, none⟩ (.int .i64 t) = w1 at *
  have y0 := h1w.c0
  have y2 := h1w.c2
  have y3 := h1w.c3
  have z3 := h1w.fz 3
  go_quiet ((go_at_call 38; exact Calls.quiet_of_same (hf _)))
  go_wp2_with fail
  go_end0
  have h2 := (setcells (h1w.drewN nq) (.int .i64 (at_ + p0))).2.2.1
  have g2 := grown_set (grown_below g1 (below_drewN _ _ nq)) (p := ⟨B, 3, none⟩) (.inr rfl) (.int .i64 (at_ + p0))
  exact And.intro rfl (And.intro h2 g2)

theorem WK.below {w w' : World} {B : Nat} {v0 v1 v2 v3 v4 v5 v6 : Value} (h : WK w B v0 v1 v2 v3 v4 v5 v6) (hb : Below w.heap.size w w') : WK w' B v0 v1 v2 v3 v4 v5 v6 :=
  ⟨Nat.lt_of_lt_of_le h.lt hb.size, (hb.cell (p := ⟨B, 0, none⟩) h.lt).trans h.c0, (hb.cell (p := ⟨B, 1, none⟩) h.lt).trans h.c1, (hb.cell (p := ⟨B, 2, none⟩) h.lt).trans h.c2, (hb.cell (p := ⟨B, 3, none⟩) h.lt).trans h.c3, (hb.cell (p := ⟨B, 4, none⟩) h.lt).trans h.c4, (hb.cell (p := ⟨B, 5, none⟩) h.lt).trans h.c5, (hb.cell (p := ⟨B, 6, none⟩) h.lt).trans h.c6,
    fun j => by have e := hb.block B h.lt; have := h.fz j; simp only [World.frozen?] at this ⊢; rw [e]; exact this⟩

/-- To one of a row of numbers: the first one. -/
theorem item_num (s : Schema) (sv : Value) (b off c : Nat) (w : World) (B : Nat) (ty : Int) (v1 v2 v3 v4 v5 v6 : Value) (h : WK w B sv v1 v2 v3 v4 v5 v6)
    (hs : Sch w sv s) (hc : w.cell? ⟨b, off, none⟩ = some (.int .i64 0)) :
    Calls Tryd.prog 70 #[.pointer (some ⟨B, 0, none⟩), .int .i64 3, .int .i64 ty, .int .i64 3, .slice (some ⟨b, off, none⟩) 1 c] w (WkP w B sv v1 (.slice (some ⟨b, off, none⟩) 1 c) (.int .i64 3) (.int .i64 3) v5 v6) := by
  have hf := nfields_any s sv ty w hs
  generalize (typeL s ty).length = n at *
  have h1 := (setcells h (.slice (some ⟨b, off, none⟩) 1 c)).2.1
  have h2 := (setcells h1 (.int .i64 3)).2.2.2
  have h3 := (setcells h2 (.int .i64 3)).2.2.1
  have g1 := grown_set (World.grownBy.refl w (some B)) (p := ⟨B, 2, none⟩) (.inr rfl) (.slice (some ⟨b, off, none⟩) 1 c)
  have g2 := grown_set g1 (p := ⟨B, 4, none⟩) (.inr rfl) (.int .i64 3)
  have g3 := grown_set g2 (p := ⟨B, 3, none⟩) (.inr rfl) (.int .i64 3)
  have Hend := hid (And.intro h3 g3)
  have y0 := h.c0
  have y2 := h.c2
  have y3 := h.c3
  have y4 := h.c4
  have z2 := h.fz 2
  have z3 := h.fz 3
  have z4 := h.fz 4
  clear h h1 h2 h3 g1 g2 g3 hs
  go_enter Tryd.func70, Tryd.ntmps70
  go_wp2_with ((refine hf.mono ?_); rintro r1 w1 ⟨rfl, rfl⟩)
  (first | go_end0 | refine bodyPost_ret (results_none rfl _ _ _) rfl ?_)
  exact And.intro rfl Hend.out

theorem held2 {w W W' : World} {D : Nat} {v0 v1 : Value} (h : W.cell? ⟨D, 0, none⟩ = some v0 ∧ W.cell? ⟨D, 1, none⟩ = some v1 ∧ D < W.heap.size ∧ Below w.heap.size w W) (hb : Below W.heap.size W W') :
    W'.cell? ⟨D, 0, none⟩ = some v0 ∧ W'.cell? ⟨D, 1, none⟩ = some v1 ∧ D < W'.heap.size ∧ Below w.heap.size w W' := by
  obtain ⟨h0, h1, h5, h6⟩ := h
  exact ⟨(hb.cell h5).trans h0, (hb.cell h5).trans h1, Nat.lt_of_lt_of_le h5 hb.size, h6.trans (hb.mono h6.size)⟩
theorem held2_end {w W : World} {D : Nat} {v0 v1 : Value} (h : W.cell? ⟨D, 0, none⟩ = some v0 ∧ W.cell? ⟨D, 1, none⟩ = some v1 ∧ D < W.heap.size ∧ Below w.heap.size w W) : Below w.heap.size w W := h.2.2.2

set_option maxRecDepth 100000 in
set_option maxHeartbeats 2000000 in
/-- From a field's word to its row of numbers. -/
theorem field_num (s : Schema) (sv : Value) (b off c : Nat) (w : World) (B : Nat) (t ty : Int) (v5 v6 : Value) (h : WK w B sv (.int .i64 t) (.slice (some ⟨b, off, none⟩) 2 c) (.int .i64 2) (.int .i64 0) v5 v6)
    (hs : Sch w sv s) (hb : b < w.heap.size) (hc2 : 2 ≤ c) (hc0 : w.cell? ⟨b, off, none⟩ = some (.int .i64 1)) (hc1 : w.cell? ⟨b, off + 1, none⟩ = some (.int .i64 0)) (hf : fieldP s t 1 = (3, ty)) :
    Calls Tryd.prog 46 #[.pointer (some ⟨B, 0, none⟩), .int .u64 8589934593] w (WkP w B sv (.int .i64 t) (.slice (some ⟨b, off + 1, none⟩) 1 (c - 1)) (.int .i64 3) (.int .i64 3) v5 v6) := by
  have hk : ∀ W, Below w.heap.size w W → Calls Tryd.prog 34 #[sv, .int .i64 t, .int .i64 1] W (fun r w' => r = .returned (.int .i64 3) ∧ Below W.heap.size W w') := fun W hW => by
    have := kind_any s sv t 1 W (hs.below hW (Nat.le_refl _)); rw [hf] at this; exact this
  have ht : ∀ W, Below w.heap.size w W → Calls Tryd.prog 35 #[sv, .int .i64 t, .int .i64 1] W (fun r w' => r = .returned (.int .i64 ty) ∧ Below W.heap.size W w') := fun W hW => by
    have := type_any s sv t 1 W (hs.below hW (Nat.le_refl _)); rw [hf] at this; exact this
  have Hs := hid hs
  have Hh := hid h
  have y0 := h.c0
  have y1 := h.c1
  have y2 := h.c2
  have y3 := h.c3
  have lt := h.lt
  have hc2' : (2 : Int) ≤ (c : Int) := by omega
  clear hs h hf
  go_enter Tryd.func46, Tryd.ntmps46
  go_wp2_with fail
  go_quiet (fail)
  go_wp2_with fail
  go_region_held3 (fun W => W.cell? ⟨B, 0, none⟩ = some sv ∧ W.cell? ⟨B, 1, none⟩ = some (.int .i64 t) ∧ B < W.heap.size ∧ Below w.heap.size w W)
    (first | exact ⟨y0, y1, lt, (below_drewN _ w nq).trans (below_drewN _ (w.drewN nq) 1)⟩ | exact held2 (by assumption) hb3)
    (first
    | (go_at_call 34; (refine (hk _ (held2_end (by assumption))).mono ?_); rintro r wA ⟨rfl, hb3⟩)
    | (go_at_call 35; (refine (ht _ (held2_end (by assumption))).mono ?_); rintro r wA ⟨rfl, hb3⟩))
  all_goals
    have hW : Below w.heap.size w wA := held2_end (w := w) (W := wA) (by assumption)
    have h2 := Hh.out.below hW
    have x3 := h2.c3
    have xc : wA.cell? ⟨b, off + 1, none⟩ = some (.int .i64 0) := (hW.cell (p := ⟨b, off + 1, none⟩) hb).trans hc1
    have hitem := item_num s sv b (off + 1) (c - 1) wA B ty _ _ _ _ _ _ h2 (Hs.out.below hW (Nat.le_refl _)) xc
    clear hk ht hb3 h2
    go_wp2_with (first
      | (go_at_call 69; refine (part_one _).mono ?_; rintro r1 w5 ⟨rfl, rfl⟩)
      | (go_at_call 70; refine hitem.mono ?_; rintro r1 w6 ⟨rfl, h6, hg6⟩))
    (first | go_end0 | refine bodyPost_ret (results_none rfl _ _ _) rfl ?_)
    exact And.intro rfl (And.intro h6 (grown_more (grown_below (World.grownBy.refl w (some B)) hW) hg6 (fun g e => .inr e)))

/-- Give: the word of the row's field; a number of the row. -/
theorem give_field (s : Schema) (sv : Value) (b off c : Nat) (w : World) (B : Nat) (t ty : Int) (v5 v6 : Value) (h : WK w B sv (.int .i64 t) (.slice (some ⟨b, off, none⟩) 2 c) (.int .i64 2) (.int .i64 0) v5 v6)
    (hs : Sch w sv s) (hb : b < w.heap.size) (hc2 : 2 ≤ c) (hc0 : w.cell? ⟨b, off, none⟩ = some (.int .i64 1)) (hc1 : w.cell? ⟨b, off + 1, none⟩ = some (.int .i64 0)) (hf : fieldP s t 1 = (3, ty)) :
    Calls Tryd.prog 23 #[.pointer (some ⟨B, 0, none⟩), .int .u64 8589934593] w (WkP w B sv (.int .i64 t) (.slice (some ⟨b, off + 1, none⟩) 1 (c - 1)) (.int .i64 3) (.int .i64 3) v5 v6) := by
  have hfield := field_num s sv b off c w B t ty v5 v6 h hs hb hc2 hc0 hc1 hf
  have y3 := h.c3
  have y4 := h.c4
  clear h hs hf
  go_enter Tryd.func23, Tryd.ntmps23
  go_wp2_with ((refine hfield.mono ?_); rintro r1 w1 ⟨rfl, h1, hg1⟩)
  (first | go_end0 | refine bodyPost_ret (results_none rfl _ _ _) rfl ?_)
  exact And.intro rfl (And.intro h1 hg1)

theorem give_num (w : World) (B : Nat) (x : Int) (v0 v1 v2 v5 v6 : Value) (h : WK w B v0 v1 v2 (.int .i64 3) (.int .i64 3) v5 v6) :
    Calls Tryd.prog 23 #[.pointer (some ⟨B, 0, none⟩), .int .u64 x] w (WkP w B v0 v1 v2 (.int .i64 (-1)) (.int .i64 3) (.int .u64 x) (.int .i64 0)) := by
  have hend := end_any w B _ _ _ _ _ _ _ x 0 h
  have y3 := h.c3
  have y4 := h.c4
  clear h
  go_enter Tryd.func23, Tryd.ntmps23
  go_wp2_with ((refine hend.mono ?_); rintro r1 w1 ⟨rfl, h1, hg1⟩)
  (first | go_end0 | refine bodyPost_ret (results_none rfl _ _ _) rfl ?_)
  exact And.intro rfl (And.intro h1 hg1)
end SLook

end Go.Proofs.YtblbhlgihlgncaaDoor


/- Contracts of look.Walk, general: field, Give. -/
import Derived.Test.YtblbhlgihlgncaaDoorWkI
set_option linter.unusedVariables false
set_option linter.unusedSimpArgs false
namespace Go.Proofs.YtblbhlgihlgncaaDoor
section SWkF
open Go.RowKit

section
variable (s : Schema) (sv : Value) (kd ty t p0 r0 ask : Int) (x : BitVec 64) (b off m c : Nat) (w : World) (B : Nat) (v4 v5 v6 : Value)
set_option maxRecDepth 100000 in
set_option maxHeartbeats 2000000 in
theorem field_word (h : WK w B sv (.int .i64 t) (.slice (some ⟨b, off, none⟩) 1 c) (.int .i64 ask) v4 v5 v6) (hs : Sch w sv s) (hb : b < w.heap.size) (hf : fieldP s t p0 = (kd, ty)) (hc0 : w.cell? ⟨b, off, none⟩ = some (.int .i64 p0)) (ha : 0 ≤ ask ∧ ask ≤ 1000000000000) (hmc : 1 ≤ c) (hk1 : kd = 1) :
    Calls Tryd.prog 46 #[.pointer (some ⟨B, 0, none⟩), U x] w (WkP w B sv (.int .i64 t) (.slice (some ⟨b, off, none⟩) 1 c) (.int .i64 (-1)) v4 (U (x)) (.int .i64 0)) := by
  have hk : ∀ W, Below w.heap.size w W → Calls Tryd.prog 34 #[sv, .int .i64 t, .int .i64 p0] W (fun r w' => r = .returned (.int .i64 kd) ∧ Below W.heap.size W w') := fun W hW => by
    have := kind_any s sv t p0 W (hs.below hW (Nat.le_refl _)); rw [hf] at this; exact this
  have ht : ∀ W, Below w.heap.size w W → Calls Tryd.prog 35 #[sv, .int .i64 t, .int .i64 p0] W (fun r w' => r = .returned (.int .i64 ty) ∧ Below W.heap.size W w') := fun W hW => by
    have := type_any s sv t p0 W (hs.below hW (Nat.le_refl _)); rw [hf] at this; exact this
  have Hh := hid h
  have y0 := h.c0
  have y1 := h.c1
  have y2 := h.c2
  have y3 := h.c3
  have lt := h.lt
  have hlb : 0 ≤ loV x ∧ loV x < 4294967296 := loV_bd x
  have hpart := part_any x
  have hm3 : (1 : Int) ≤ (c : Int) := by omega
  subst hk1
  obtain ⟨hv, hhv⟩ : ∃ hv, hv = hiV x := ⟨_, rfl⟩
  obtain ⟨lv, hlv⟩ : ∃ lv, lv = loV x := ⟨_, rfl⟩
  rw [← hlv] at hlb
  simp only [← hhv, ← hlv] at hpart
  have hw2 : IntKind.i64.wrap (ask + lv) = ask + lv := IntWalk.i64_in _ (by omega)
  clear h hs hf hlv hhv hlb ha
  rcases (show c = 1 ∨ 2 ≤ c by omega) with rfl | hc2
  all_goals
    go_enter Tryd.func46, Tryd.ntmps46
    go_wp2_with fail
    go_quiet (fail)
    go_wp2_with fail
    go_region_held3 (fun W => W.cell? ⟨B, 0, none⟩ = some sv ∧ W.cell? ⟨B, 1, none⟩ = some (.int .i64 t) ∧ B < W.heap.size ∧ Below w.heap.size w W)
      (first | exact ⟨y0, y1, lt, (below_drewN _ w nq).trans (below_drewN _ (w.drewN nq) 1)⟩ | exact held2 (by assumption) hb3)
      (first
      | (go_at_call 34; (refine (hk _ (held2_end (by assumption))).mono ?_); rintro r wA ⟨rfl, hb3⟩)
      | (go_at_call 35; (refine (ht _ (held2_end (by assumption))).mono ?_); rintro r wA ⟨rfl, hb3⟩))
    all_goals
      have hW : Below w.heap.size w wA := held2_end (w := w) (W := wA) (by assumption)
      have h2 := Hh.out.below hW
      have x3 := h2.c3
      clear hk ht hb3
      go_wp2_with (first
        | (go_at_call 69; refine (hpart _).mono ?_; rintro r1 w5 ⟨rfl, rfl⟩)
        | (go_at_call 44; refine (wk_end _ B _ _ _ _ _ _ _ (x) 0 h2).mono ?_; rintro r1 w6 ⟨rfl, h6, hg6⟩))
      (first | go_end0 | refine bodyPost_ret (results_none rfl _ _ _) rfl ?_)
      exact And.intro rfl (And.intro h6 (grown_more (grown_below (World.grownBy.refl w (some B)) hW) hg6 (fun g e => .inr e)))
set_option maxRecDepth 100000 in
set_option maxHeartbeats 2000000 in
theorem field_size (h : WK w B sv (.int .i64 t) (.slice (some ⟨b, off, none⟩) 1 c) (.int .i64 ask) v4 v5 v6) (hs : Sch w sv s) (hb : b < w.heap.size) (hf : fieldP s t p0 = (kd, ty)) (hc0 : w.cell? ⟨b, off, none⟩ = some (.int .i64 p0)) (ha : 0 ≤ ask ∧ ask ≤ 1000000000000) (hmc : 1 ≤ c) (hk1 : kd ≠ 1) :
    Calls Tryd.prog 46 #[.pointer (some ⟨B, 0, none⟩), U x] w (WkP w B sv (.int .i64 t) (.slice (some ⟨b, off, none⟩) 1 c) (.int .i64 (-1)) v4 (U (BitVec.ofNat 64 (hiN x))) (.int .i64 0)) := by
  have hk : ∀ W, Below w.heap.size w W → Calls Tryd.prog 34 #[sv, .int .i64 t, .int .i64 p0] W (fun r w' => r = .returned (.int .i64 kd) ∧ Below W.heap.size W w') := fun W hW => by
    have := kind_any s sv t p0 W (hs.below hW (Nat.le_refl _)); rw [hf] at this; exact this
  have ht : ∀ W, Below w.heap.size w W → Calls Tryd.prog 35 #[sv, .int .i64 t, .int .i64 p0] W (fun r w' => r = .returned (.int .i64 ty) ∧ Below W.heap.size W w') := fun W hW => by
    have := type_any s sv t p0 W (hs.below hW (Nat.le_refl _)); rw [hf] at this; exact this
  have Hh := hid h
  have y0 := h.c0
  have y1 := h.c1
  have y2 := h.c2
  have y3 := h.c3
  have lt := h.lt
  have hlb : 0 ≤ loV x ∧ loV x < 4294967296 := loV_bd x
  have hpart := part_any x
  have hm3 : (1 : Int) ≤ (c : Int) := by omega
  obtain ⟨hv, hhv⟩ : ∃ hv, hv = hiV x := ⟨_, rfl⟩
  obtain ⟨lv, hlv⟩ : ∃ lv, lv = loV x := ⟨_, rfl⟩
  rw [← hlv] at hlb
  simp only [← hhv, ← hlv] at hpart
  have hk1 : (kd == 1) = false := by rw [beq_eq_false_iff_ne]; exact hk1
  have hhn : hv = ((hiN x : Nat) : Int) := hhv
  generalize hiN x = hn at *
  subst hhn
  have hw2 : IntKind.i64.wrap (ask + lv) = ask + lv := IntWalk.i64_in _ (by omega)
  clear h hs hf hlv hhv hlb ha
  rcases (show c = 1 ∨ 2 ≤ c by omega) with rfl | hc2
  all_goals
    go_enter Tryd.func46, Tryd.ntmps46
    go_wp2_with fail
    go_quiet (fail)
    go_wp2_with fail
    go_region_held3 (fun W => W.cell? ⟨B, 0, none⟩ = some sv ∧ W.cell? ⟨B, 1, none⟩ = some (.int .i64 t) ∧ B < W.heap.size ∧ Below w.heap.size w W)
      (first | exact ⟨y0, y1, lt, (below_drewN _ w nq).trans (below_drewN _ (w.drewN nq) 1)⟩ | exact held2 (by assumption) hb3)
      (first
      | (go_at_call 34; (refine (hk _ (held2_end (by assumption))).mono ?_); rintro r wA ⟨rfl, hb3⟩)
      | (go_at_call 35; (refine (ht _ (held2_end (by assumption))).mono ?_); rintro r wA ⟨rfl, hb3⟩))
    all_goals
      have hW : Below w.heap.size w wA := held2_end (w := w) (W := wA) (by assumption)
      have h2 := Hh.out.below hW
      have x3 := h2.c3
      clear hk ht hb3
      go_wp2_with (first
        | (go_at_call 69; refine (hpart _).mono ?_; rintro r1 w5 ⟨rfl, rfl⟩)
        | (go_at_call 44; refine (wk_end _ B _ _ _ _ _ _ _ (BitVec.ofNat 64 hn) 0 h2).mono ?_; rintro r1 w6 ⟨rfl, h6, hg6⟩))
      (first | go_end0 | refine bodyPost_ret (results_none rfl _ _ _) rfl ?_)
      exact And.intro rfl (And.intro h6 (grown_more (grown_below (World.grownBy.refl w (some B)) hW) hg6 (fun g e => .inr e)))
set_option maxRecDepth 100000 in
set_option maxHeartbeats 2000000 in
theorem field_kind (h : WK w B sv (.int .i64 t) (.slice (some ⟨b, off, none⟩) m c) (.int .i64 ask) v4 v5 v6) (hs : Sch w sv s) (hb : b < w.heap.size) (hf : fieldP s t p0 = (kd, ty)) (hc0 : w.cell? ⟨b, off, none⟩ = some (.int .i64 p0)) (ha : 0 ≤ ask ∧ ask ≤ 1000000000000) (hm : 2 ≤ m) (hmc : m ≤ c) (hc1 : w.cell? ⟨b, off + 1, none⟩ = some (.int .i64 r0)) (hk1 : kd = 1) :
    Calls Tryd.prog 46 #[.pointer (some ⟨B, 0, none⟩), U x] w (WkP w B sv (.int .i64 t) (.slice (some ⟨b, off, none⟩) m c) (.int .i64 (-1)) v4 (U (0#64)) (.int .i64 24)) := by
  have hk : ∀ W, Below w.heap.size w W → Calls Tryd.prog 34 #[sv, .int .i64 t, .int .i64 p0] W (fun r w' => r = .returned (.int .i64 kd) ∧ Below W.heap.size W w') := fun W hW => by
    have := kind_any s sv t p0 W (hs.below hW (Nat.le_refl _)); rw [hf] at this; exact this
  have ht : ∀ W, Below w.heap.size w W → Calls Tryd.prog 35 #[sv, .int .i64 t, .int .i64 p0] W (fun r w' => r = .returned (.int .i64 ty) ∧ Below W.heap.size W w') := fun W hW => by
    have := type_any s sv t p0 W (hs.below hW (Nat.le_refl _)); rw [hf] at this; exact this
  have Hh := hid h
  have y0 := h.c0
  have y1 := h.c1
  have y2 := h.c2
  have y3 := h.c3
  have lt := h.lt
  have hlb : 0 ≤ loV x ∧ loV x < 4294967296 := loV_bd x
  have hpart := part_any x
  have hm0 : ((m : Int) - 1 == 0) = false := by rw [beq_eq_false_iff_ne]; omega
  have hm0' : (((m - 1 : Nat) : Int) == 0) = false := by rw [beq_eq_false_iff_ne]; omega
  have hm1 : 0 < m := by omega
  have hm1' : 0 < m - 1 := by omega
  have hm2 : (1 : Int) ≤ (m : Int) := by omega
  have hm3 : (m : Int) ≤ (c : Int) := by omega
  subst hk1
  obtain ⟨hv, hhv⟩ : ∃ hv, hv = hiV x := ⟨_, rfl⟩
  obtain ⟨lv, hlv⟩ : ∃ lv, lv = loV x := ⟨_, rfl⟩
  rw [← hlv] at hlb
  simp only [← hhv, ← hlv] at hpart
  have hw2 : IntKind.i64.wrap (ask + lv) = ask + lv := IntWalk.i64_in _ (by omega)
  clear h hs hf hlv hhv hlb ha
  go_enter Tryd.func46, Tryd.ntmps46
  go_wp2_with fail
  go_quiet (fail)
  go_wp2_with fail
  go_region_held3 (fun W => W.cell? ⟨B, 0, none⟩ = some sv ∧ W.cell? ⟨B, 1, none⟩ = some (.int .i64 t) ∧ B < W.heap.size ∧ Below w.heap.size w W)
    (first | exact ⟨y0, y1, lt, (below_drewN _ w nq).trans (below_drewN _ (w.drewN nq) 1)⟩ | exact held2 (by assumption) hb3)
    (first
    | (go_at_call 34; (refine (hk _ (held2_end (by assumption))).mono ?_); rintro r wA ⟨rfl, hb3⟩)
    | (go_at_call 35; (refine (ht _ (held2_end (by assumption))).mono ?_); rintro r wA ⟨rfl, hb3⟩))
  all_goals
    have hW : Below w.heap.size w wA := held2_end (w := w) (W := wA) (by assumption)
    have h2 := Hh.out.below hW
    have x3 := h2.c3
    have xc : wA.cell? ⟨b, off + 1, none⟩ = some (.int .i64 r0) := (hW.cell (p := ⟨b, off + 1, none⟩) hb).trans hc1
    clear hk ht hb3
    go_wp2_with (first
      | (go_at_call 69; refine (hpart _).mono ?_; rintro r1 w5 ⟨rfl, rfl⟩)
      | (go_at_call 44; refine (wk_end _ B _ _ _ _ _ _ _ (0#64) 24 h2).mono ?_; rintro r1 w6 ⟨rfl, h6, hg6⟩))
    (first | go_end0 | refine bodyPost_ret (results_none rfl _ _ _) rfl ?_)
    exact And.intro rfl (And.intro h6 (grown_more (grown_below (World.grownBy.refl w (some B)) hW) hg6 (fun g e => .inr e)))
set_option maxRecDepth 100000 in
set_option maxHeartbeats 2000000 in
theorem field_none (h : WK w B sv (.int .i64 t) (.slice (some ⟨b, off, none⟩) m c) (.int .i64 ask) v4 v5 v6) (hs : Sch w sv s) (hb : b < w.heap.size) (hf : fieldP s t p0 = (kd, ty)) (hc0 : w.cell? ⟨b, off, none⟩ = some (.int .i64 p0)) (ha : 0 ≤ ask ∧ ask ≤ 1000000000000) (hm : 2 ≤ m) (hmc : m ≤ c) (hc1 : w.cell? ⟨b, off + 1, none⟩ = some (.int .i64 r0)) (hk1 : kd ≠ 1) (hn : hiN x = 0) :
    Calls Tryd.prog 46 #[.pointer (some ⟨B, 0, none⟩), U x] w (WkP w B sv (.int .i64 t) (.slice (some ⟨b, off, none⟩) m c) (.int .i64 (-1)) v4 (U (0#64)) (.int .i64 12)) := by
  have hk : ∀ W, Below w.heap.size w W → Calls Tryd.prog 34 #[sv, .int .i64 t, .int .i64 p0] W (fun r w' => r = .returned (.int .i64 kd) ∧ Below W.heap.size W w') := fun W hW => by
    have := kind_any s sv t p0 W (hs.below hW (Nat.le_refl _)); rw [hf] at this; exact this
  have ht : ∀ W, Below w.heap.size w W → Calls Tryd.prog 35 #[sv, .int .i64 t, .int .i64 p0] W (fun r w' => r = .returned (.int .i64 ty) ∧ Below W.heap.size W w') := fun W hW => by
    have := type_any s sv t p0 W (hs.below hW (Nat.le_refl _)); rw [hf] at this; exact this
  have Hh := hid h
  have y0 := h.c0
  have y1 := h.c1
  have y2 := h.c2
  have y3 := h.c3
  have lt := h.lt
  have hlb : 0 ≤ loV x ∧ loV x < 4294967296 := loV_bd x
  have hpart := part_any x
  have hm0 : ((m : Int) - 1 == 0) = false := by rw [beq_eq_false_iff_ne]; omega
  have hm0' : (((m - 1 : Nat) : Int) == 0) = false := by rw [beq_eq_false_iff_ne]; omega
  have hm1 : 0 < m := by omega
  have hm1' : 0 < m - 1 := by omega
  have hm2 : (1 : Int) ≤ (m : Int) := by omega
  have hm3 : (m : Int) ≤ (c : Int) := by omega
  obtain ⟨hv, hhv⟩ : ∃ hv, hv = hiV x := ⟨_, rfl⟩
  obtain ⟨lv, hlv⟩ : ∃ lv, lv = loV x := ⟨_, rfl⟩
  rw [← hlv] at hlb
  simp only [← hhv, ← hlv] at hpart
  have hk1 : (kd == 1) = false := by rw [beq_eq_false_iff_ne]; exact hk1
  have hz : (hv == 0) = true := by rw [beq_iff_eq, hhv]; unfold hiV; unfold hiN at hn; omega
  have hw2 : IntKind.i64.wrap (ask + lv) = ask + lv := IntWalk.i64_in _ (by omega)
  clear h hs hf hlv hhv hlb ha
  go_enter Tryd.func46, Tryd.ntmps46
  go_wp2_with fail
  go_quiet (fail)
  go_wp2_with fail
  go_region_held3 (fun W => W.cell? ⟨B, 0, none⟩ = some sv ∧ W.cell? ⟨B, 1, none⟩ = some (.int .i64 t) ∧ B < W.heap.size ∧ Below w.heap.size w W)
    (first | exact ⟨y0, y1, lt, (below_drewN _ w nq).trans (below_drewN _ (w.drewN nq) 1)⟩ | exact held2 (by assumption) hb3)
    (first
    | (go_at_call 34; (refine (hk _ (held2_end (by assumption))).mono ?_); rintro r wA ⟨rfl, hb3⟩)
    | (go_at_call 35; (refine (ht _ (held2_end (by assumption))).mono ?_); rintro r wA ⟨rfl, hb3⟩))
  all_goals
    have hW : Below w.heap.size w wA := held2_end (w := w) (W := wA) (by assumption)
    have h2 := Hh.out.below hW
    have x3 := h2.c3
    have xc : wA.cell? ⟨b, off + 1, none⟩ = some (.int .i64 r0) := (hW.cell (p := ⟨b, off + 1, none⟩) hb).trans hc1
    clear hk ht hb3
    go_wp2_with (first
      | (go_at_call 69; refine (hpart _).mono ?_; rintro r1 w5 ⟨rfl, rfl⟩)
      | (go_at_call 44; refine (wk_end _ B _ _ _ _ _ _ _ (0#64) 12 h2).mono ?_; rintro r1 w6 ⟨rfl, h6, hg6⟩))
    (first | go_end0 | refine bodyPost_ret (results_none rfl _ _ _) rfl ?_)
    exact And.intro rfl (And.intro h6 (grown_more (grown_below (World.grownBy.refl w (some B)) hW) hg6 (fun g e => .inr e)))
set_option maxRecDepth 100000 in
set_option maxHeartbeats 2000000 in
theorem field_low (h : WK w B sv (.int .i64 t) (.slice (some ⟨b, off, none⟩) m c) (.int .i64 ask) v4 v5 v6) (hs : Sch w sv s) (hb : b < w.heap.size) (hf : fieldP s t p0 = (kd, ty)) (hc0 : w.cell? ⟨b, off, none⟩ = some (.int .i64 p0)) (ha : 0 ≤ ask ∧ ask ≤ 1000000000000) (hm : 2 ≤ m) (hmc : m ≤ c) (hc1 : w.cell? ⟨b, off + 1, none⟩ = some (.int .i64 r0)) (hk1 : kd ≠ 1) (hk4 : kd ≠ 4) (hn : hiN x ≠ 0) (hr : r0 < 0) :
    Calls Tryd.prog 46 #[.pointer (some ⟨B, 0, none⟩), U x] w (WkP w B sv (.int .i64 t) (.slice (some ⟨b, off, none⟩) m c) (.int .i64 (-1)) v4 (U (0#64)) (.int .i64 12)) := by
  have hk : ∀ W, Below w.heap.size w W → Calls Tryd.prog 34 #[sv, .int .i64 t, .int .i64 p0] W (fun r w' => r = .returned (.int .i64 kd) ∧ Below W.heap.size W w') := fun W hW => by
    have := kind_any s sv t p0 W (hs.below hW (Nat.le_refl _)); rw [hf] at this; exact this
  have ht : ∀ W, Below w.heap.size w W → Calls Tryd.prog 35 #[sv, .int .i64 t, .int .i64 p0] W (fun r w' => r = .returned (.int .i64 ty) ∧ Below W.heap.size W w') := fun W hW => by
    have := type_any s sv t p0 W (hs.below hW (Nat.le_refl _)); rw [hf] at this; exact this
  have Hh := hid h
  have y0 := h.c0
  have y1 := h.c1
  have y2 := h.c2
  have y3 := h.c3
  have lt := h.lt
  have hlb : 0 ≤ loV x ∧ loV x < 4294967296 := loV_bd x
  have hpart := part_any x
  have hm0 : ((m : Int) - 1 == 0) = false := by rw [beq_eq_false_iff_ne]; omega
  have hm0' : (((m - 1 : Nat) : Int) == 0) = false := by rw [beq_eq_false_iff_ne]; omega
  have hm1 : 0 < m := by omega
  have hm1' : 0 < m - 1 := by omega
  have hm2 : (1 : Int) ≤ (m : Int) := by omega
  have hm3 : (m : Int) ≤ (c : Int) := by omega
  obtain ⟨hv, hhv⟩ : ∃ hv, hv = hiV x := ⟨_, rfl⟩
  obtain ⟨lv, hlv⟩ : ∃ lv, lv = loV x := ⟨_, rfl⟩
  rw [← hlv] at hlb
  simp only [← hhv, ← hlv] at hpart
  have hk1 : (kd == 1) = false := by rw [beq_eq_false_iff_ne]; exact hk1
  have hz : (hv == 0) = false := by rw [beq_eq_false_iff_ne, hhv]; unfold hiV; unfold hiN at hn; omega
  have hk4 : (kd == 4) = false := by rw [beq_eq_false_iff_ne]; exact hk4
  have hd0 : decide (r0 < 0) = true := decide_eq_true hr
  have hw2 : IntKind.i64.wrap (ask + lv) = ask + lv := IntWalk.i64_in _ (by omega)
  clear h hs hf hlv hhv hlb ha
  go_enter Tryd.func46, Tryd.ntmps46
  go_wp2_with fail
  go_quiet (fail)
  go_wp2_with fail
  go_region_held3 (fun W => W.cell? ⟨B, 0, none⟩ = some sv ∧ W.cell? ⟨B, 1, none⟩ = some (.int .i64 t) ∧ B < W.heap.size ∧ Below w.heap.size w W)
    (first | exact ⟨y0, y1, lt, (below_drewN _ w nq).trans (below_drewN _ (w.drewN nq) 1)⟩ | exact held2 (by assumption) hb3)
    (first
    | (go_at_call 34; (refine (hk _ (held2_end (by assumption))).mono ?_); rintro r wA ⟨rfl, hb3⟩)
    | (go_at_call 35; (refine (ht _ (held2_end (by assumption))).mono ?_); rintro r wA ⟨rfl, hb3⟩))
  all_goals
    have hW : Below w.heap.size w wA := held2_end (w := w) (W := wA) (by assumption)
    have h2 := Hh.out.below hW
    have x3 := h2.c3
    have xc : wA.cell? ⟨b, off + 1, none⟩ = some (.int .i64 r0) := (hW.cell (p := ⟨b, off + 1, none⟩) hb).trans hc1
    clear hk ht hb3
    go_wp2_with (first
      | (go_at_call 69; refine (hpart _).mono ?_; rintro r1 w5 ⟨rfl, rfl⟩)
      | (go_at_call 44; refine (wk_end _ B _ _ _ _ _ _ _ (0#64) 12 h2).mono ?_; rintro r1 w6 ⟨rfl, h6, hg6⟩))
    (first | go_end0 | refine bodyPost_ret (results_none rfl _ _ _) rfl ?_)
    exact And.intro rfl (And.intro h6 (grown_more (grown_below (World.grownBy.refl w (some B)) hW) hg6 (fun g e => .inr e)))
set_option maxRecDepth 100000 in
set_option maxHeartbeats 2000000 in
theorem field_high (h : WK w B sv (.int .i64 t) (.slice (some ⟨b, off, none⟩) m c) (.int .i64 ask) v4 v5 v6) (hs : Sch w sv s) (hb : b < w.heap.size) (hf : fieldP s t p0 = (kd, ty)) (hc0 : w.cell? ⟨b, off, none⟩ = some (.int .i64 p0)) (ha : 0 ≤ ask ∧ ask ≤ 1000000000000) (hm : 2 ≤ m) (hmc : m ≤ c) (hc1 : w.cell? ⟨b, off + 1, none⟩ = some (.int .i64 r0)) (hk1 : kd ≠ 1) (hk4 : kd ≠ 4) (hn : hiN x ≠ 0) (hr0 : 0 ≤ r0) (hr : (hiN x : Int) ≤ r0) :
    Calls Tryd.prog 46 #[.pointer (some ⟨B, 0, none⟩), U x] w (WkP w B sv (.int .i64 t) (.slice (some ⟨b, off, none⟩) m c) (.int .i64 (-1)) v4 (U (0#64)) (.int .i64 12)) := by
  have hk : ∀ W, Below w.heap.size w W → Calls Tryd.prog 34 #[sv, .int .i64 t, .int .i64 p0] W (fun r w' => r = .returned (.int .i64 kd) ∧ Below W.heap.size W w') := fun W hW => by
    have := kind_any s sv t p0 W (hs.below hW (Nat.le_refl _)); rw [hf] at this; exact this
  have ht : ∀ W, Below w.heap.size w W → Calls Tryd.prog 35 #[sv, .int .i64 t, .int .i64 p0] W (fun r w' => r = .returned (.int .i64 ty) ∧ Below W.heap.size W w') := fun W hW => by
    have := type_any s sv t p0 W (hs.below hW (Nat.le_refl _)); rw [hf] at this; exact this
  have Hh := hid h
  have y0 := h.c0
  have y1 := h.c1
  have y2 := h.c2
  have y3 := h.c3
  have lt := h.lt
  have hlb : 0 ≤ loV x ∧ loV x < 4294967296 := loV_bd x
  have hpart := part_any x
  have hm0 : ((m : Int) - 1 == 0) = false := by rw [beq_eq_false_iff_ne]; omega
  have hm0' : (((m - 1 : Nat) : Int) == 0) = false := by rw [beq_eq_false_iff_ne]; omega
  have hm1 : 0 < m := by omega
  have hm1' : 0 < m - 1 := by omega
  have hm2 : (1 : Int) ≤ (m : Int) := by omega
  have hm3 : (m : Int) ≤ (c : Int) := by omega
  obtain ⟨hv, hhv⟩ : ∃ hv, hv = hiV x := ⟨_, rfl⟩
  obtain ⟨lv, hlv⟩ : ∃ lv, lv = loV x := ⟨_, rfl⟩
  rw [← hlv] at hlb
  simp only [← hhv, ← hlv] at hpart
  have hk1 : (kd == 1) = false := by rw [beq_eq_false_iff_ne]; exact hk1
  have hz : (hv == 0) = false := by rw [beq_eq_false_iff_ne, hhv]; unfold hiV; unfold hiN at hn; omega
  have hk4 : (kd == 4) = false := by rw [beq_eq_false_iff_ne]; exact hk4
  have hd0 : decide (r0 < 0) = false := decide_eq_false (by omega)
  have hd1 : decide (hv ≤ r0) = true := decide_eq_true (by rw [hhv]; exact hr)
  have hw2 : IntKind.i64.wrap (ask + lv) = ask + lv := IntWalk.i64_in _ (by omega)
  clear h hs hf hlv hhv hlb ha
  go_enter Tryd.func46, Tryd.ntmps46
  go_wp2_with fail
  go_quiet (fail)
  go_wp2_with fail
  go_region_held3 (fun W => W.cell? ⟨B, 0, none⟩ = some sv ∧ W.cell? ⟨B, 1, none⟩ = some (.int .i64 t) ∧ B < W.heap.size ∧ Below w.heap.size w W)
    (first | exact ⟨y0, y1, lt, (below_drewN _ w nq).trans (below_drewN _ (w.drewN nq) 1)⟩ | exact held2 (by assumption) hb3)
    (first
    | (go_at_call 34; (refine (hk _ (held2_end (by assumption))).mono ?_); rintro r wA ⟨rfl, hb3⟩)
    | (go_at_call 35; (refine (ht _ (held2_end (by assumption))).mono ?_); rintro r wA ⟨rfl, hb3⟩))
  all_goals
    have hW : Below w.heap.size w wA := held2_end (w := w) (W := wA) (by assumption)
    have h2 := Hh.out.below hW
    have x3 := h2.c3
    have xc : wA.cell? ⟨b, off + 1, none⟩ = some (.int .i64 r0) := (hW.cell (p := ⟨b, off + 1, none⟩) hb).trans hc1
    clear hk ht hb3
    go_wp2_with (first
      | (go_at_call 69; refine (hpart _).mono ?_; rintro r1 w5 ⟨rfl, rfl⟩)
      | (go_at_call 44; refine (wk_end _ B _ _ _ _ _ _ _ (0#64) 12 h2).mono ?_; rintro r1 w6 ⟨rfl, h6, hg6⟩))
    (first | go_end0 | refine bodyPost_ret (results_none rfl _ _ _) rfl ?_)
    exact And.intro rfl (And.intro h6 (grown_more (grown_below (World.grownBy.refl w (some B)) hW) hg6 (fun g e => .inr e)))
set_option maxRecDepth 100000 in
set_option maxHeartbeats 2000000 in
theorem field_one (h : WK w B sv (.int .i64 t) (.slice (some ⟨b, off, none⟩) m c) (.int .i64 ask) v4 v5 v6) (hs : Sch w sv s) (hb : b < w.heap.size) (hf : fieldP s t p0 = (kd, ty)) (hc0 : w.cell? ⟨b, off, none⟩ = some (.int .i64 p0)) (ha : 0 ≤ ask ∧ ask ≤ 1000000000000) (hm : 2 ≤ m) (hmc : m ≤ c) (hc1 : w.cell? ⟨b, off + 1, none⟩ = some (.int .i64 r0)) (hk4 : kd = 4) (hn : hiN x ≠ 0) (Q : Ending → World → Prop) (hQ : ∀ r w', Q r w' → r = .returned (.tuple #[]))
    (henter : ∀ W, w.grownBy W (some B) → WK W B sv (.int .i64 t) (.slice (some ⟨b, off + 1, none⟩) (m - 1) (c - 1)) (.int .i64 ask) v4 v5 v6 → Calls Tryd.prog 43 #[.pointer (some ⟨B, 0, none⟩), .int .i64 ty, .int .i64 (ask + loN x)] W Q) :
    Calls Tryd.prog 46 #[.pointer (some ⟨B, 0, none⟩), U x] w (Q) := by
  have hk : ∀ W, Below w.heap.size w W → Calls Tryd.prog 34 #[sv, .int .i64 t, .int .i64 p0] W (fun r w' => r = .returned (.int .i64 kd) ∧ Below W.heap.size W w') := fun W hW => by
    have := kind_any s sv t p0 W (hs.below hW (Nat.le_refl _)); rw [hf] at this; exact this
  have ht : ∀ W, Below w.heap.size w W → Calls Tryd.prog 35 #[sv, .int .i64 t, .int .i64 p0] W (fun r w' => r = .returned (.int .i64 ty) ∧ Below W.heap.size W w') := fun W hW => by
    have := type_any s sv t p0 W (hs.below hW (Nat.le_refl _)); rw [hf] at this; exact this
  have Hh := hid h
  have y0 := h.c0
  have y1 := h.c1
  have y2 := h.c2
  have y3 := h.c3
  have lt := h.lt
  have hlb : 0 ≤ loV x ∧ loV x < 4294967296 := loV_bd x
  have hpart := part_any x
  have hm0 : ((m : Int) - 1 == 0) = false := by rw [beq_eq_false_iff_ne]; omega
  have hm0' : (((m - 1 : Nat) : Int) == 0) = false := by rw [beq_eq_false_iff_ne]; omega
  have hm1 : 0 < m := by omega
  have hm1' : 0 < m - 1 := by omega
  have hm2 : (1 : Int) ≤ (m : Int) := by omega
  have hm3 : (m : Int) ≤ (c : Int) := by omega
  subst hk4
  obtain ⟨hv, hhv⟩ : ∃ hv, hv = hiV x := ⟨_, rfl⟩
  obtain ⟨lv, hlv⟩ : ∃ lv, lv = loV x := ⟨_, rfl⟩
  rw [← hlv] at hlb
  simp only [← hhv, ← hlv] at hpart
  have hz : (hv == 0) = false := by rw [beq_eq_false_iff_ne, hhv]; unfold hiV; unfold hiN at hn; omega
  rw [show ((loN x : Nat) : Int) = lv from hlv.symm] at henter
  have HE := hid henter
  have HQ := hid hQ
  clear henter hQ
  have hw2 : IntKind.i64.wrap (ask + lv) = ask + lv := IntWalk.i64_in _ (by omega)
  clear h hs hf hlv hhv hlb ha
  go_enter Tryd.func46, Tryd.ntmps46
  go_wp2_with fail
  go_quiet (fail)
  go_wp2_with fail
  go_region_held3 (fun W => W.cell? ⟨B, 0, none⟩ = some sv ∧ W.cell? ⟨B, 1, none⟩ = some (.int .i64 t) ∧ B < W.heap.size ∧ Below w.heap.size w W)
    (first | exact ⟨y0, y1, lt, (below_drewN _ w nq).trans (below_drewN _ (w.drewN nq) 1)⟩ | exact held2 (by assumption) hb3)
    (first
    | (go_at_call 34; (refine (hk _ (held2_end (by assumption))).mono ?_); rintro r wA ⟨rfl, hb3⟩)
    | (go_at_call 35; (refine (ht _ (held2_end (by assumption))).mono ?_); rintro r wA ⟨rfl, hb3⟩))
  all_goals
    have hW : Below w.heap.size w wA := held2_end (w := w) (W := wA) (by assumption)
    have h2 := Hh.out.below hW
    have x3 := h2.c3
    have xc : wA.cell? ⟨b, off + 1, none⟩ = some (.int .i64 r0) := (hW.cell (p := ⟨b, off + 1, none⟩) hb).trans hc1
    have h3 := (setcells h2 (.slice (some ⟨b, off + 1, none⟩) (m - 1) (c - 1))).2.1
    have g2 := grown_set (grown_below (World.grownBy.refl w (some B)) hW) (p := ⟨B, 2, none⟩) (.inr rfl) (.slice (some ⟨b, off + 1, none⟩) (m - 1) (c - 1))
    have f2 := h2.fz 2
    have x2 := h2.c2
    clear hk ht hb3
    go_wp2_with (first
      | (go_at_call 69; refine (hpart _).mono ?_; rintro r1 w5 ⟨rfl, rfl⟩)
      | (go_at_call 43; refine (HE.out _ g2 h3).mono ?_; intro r1 w6 hq; obtain rfl := HQ.out _ _ hq))
    (first | go_end0 | refine bodyPost_ret (results_none rfl _ _ _) rfl ?_)
    exact hq
set_option maxRecDepth 100000 in
set_option maxHeartbeats 2000000 in
theorem field_item (h : WK w B sv (.int .i64 t) (.slice (some ⟨b, off, none⟩) m c) (.int .i64 ask) v4 v5 v6) (hs : Sch w sv s) (hb : b < w.heap.size) (hf : fieldP s t p0 = (kd, ty)) (hc0 : w.cell? ⟨b, off, none⟩ = some (.int .i64 p0)) (ha : 0 ≤ ask ∧ ask ≤ 1000000000000) (hm : 2 ≤ m) (hmc : m ≤ c) (hc1 : w.cell? ⟨b, off + 1, none⟩ = some (.int .i64 r0)) (hk1 : kd ≠ 1) (hk4 : kd ≠ 4) (hn : hiN x ≠ 0) (hr0 : 0 ≤ r0) (hr : r0 < (hiN x : Int)) (Q : Ending → World → Prop) (hQ : ∀ r w', Q r w' → r = .returned (.tuple #[]))
    (hitem : ∀ W, w.grownBy W (some B) → WK W B sv (.int .i64 t) (.slice (some ⟨b, off, none⟩) m c) (.int .i64 ask) v4 v5 v6 → Calls Tryd.prog 70 #[.pointer (some ⟨B, 0, none⟩), .int .i64 kd, .int .i64 ty, .int .i64 (ask + loN x), .slice (some ⟨b, off + 1, none⟩) (m - 1) (c - 1)] W Q) :
    Calls Tryd.prog 46 #[.pointer (some ⟨B, 0, none⟩), U x] w (Q) := by
  have hk : ∀ W, Below w.heap.size w W → Calls Tryd.prog 34 #[sv, .int .i64 t, .int .i64 p0] W (fun r w' => r = .returned (.int .i64 kd) ∧ Below W.heap.size W w') := fun W hW => by
    have := kind_any s sv t p0 W (hs.below hW (Nat.le_refl _)); rw [hf] at this; exact this
  have ht : ∀ W, Below w.heap.size w W → Calls Tryd.prog 35 #[sv, .int .i64 t, .int .i64 p0] W (fun r w' => r = .returned (.int .i64 ty) ∧ Below W.heap.size W w') := fun W hW => by
    have := type_any s sv t p0 W (hs.below hW (Nat.le_refl _)); rw [hf] at this; exact this
  have Hh := hid h
  have y0 := h.c0
  have y1 := h.c1
  have y2 := h.c2
  have y3 := h.c3
  have lt := h.lt
  have hlb : 0 ≤ loV x ∧ loV x < 4294967296 := loV_bd x
  have hpart := part_any x
  have hm0 : ((m : Int) - 1 == 0) = false := by rw [beq_eq_false_iff_ne]; omega
  have hm0' : (((m - 1 : Nat) : Int) == 0) = false := by rw [beq_eq_false_iff_ne]; omega
  have hm1 : 0 < m := by omega
  have hm1' : 0 < m - 1 := by omega
  have hm2 : (1 : Int) ≤ (m : Int) := by omega
  have hm3 : (m : Int) ≤ (c : Int) := by omega
  obtain ⟨hv, hhv⟩ : ∃ hv, hv = hiV x := ⟨_, rfl⟩
  obtain ⟨lv, hlv⟩ : ∃ lv, lv = loV x := ⟨_, rfl⟩
  rw [← hlv] at hlb
  simp only [← hhv, ← hlv] at hpart
  have hk1 : (kd == 1) = false := by rw [beq_eq_false_iff_ne]; exact hk1
  have hz : (hv == 0) = false := by rw [beq_eq_false_iff_ne, hhv]; unfold hiV; unfold hiN at hn; omega
  have hk4 : (kd == 4) = false := by rw [beq_eq_false_iff_ne]; exact hk4
  have hd0 : decide (r0 < 0) = false := decide_eq_false (by omega)
  have hd1 : decide (hv ≤ r0) = false := decide_eq_false (by rw [hhv]; exact Int.not_le.mpr hr)
  rw [show ((loN x : Nat) : Int) = lv from hlv.symm] at hitem
  have HE := hid hitem
  have HQ := hid hQ
  clear hitem hQ
  have hw2 : IntKind.i64.wrap (ask + lv) = ask + lv := IntWalk.i64_in _ (by omega)
  clear h hs hf hlv hhv hlb ha
  go_enter Tryd.func46, Tryd.ntmps46
  go_wp2_with fail
  go_quiet (fail)
  go_wp2_with fail
  go_region_held3 (fun W => W.cell? ⟨B, 0, none⟩ = some sv ∧ W.cell? ⟨B, 1, none⟩ = some (.int .i64 t) ∧ B < W.heap.size ∧ Below w.heap.size w W)
    (first | exact ⟨y0, y1, lt, (below_drewN _ w nq).trans (below_drewN _ (w.drewN nq) 1)⟩ | exact held2 (by assumption) hb3)
    (first
    | (go_at_call 34; (refine (hk _ (held2_end (by assumption))).mono ?_); rintro r wA ⟨rfl, hb3⟩)
    | (go_at_call 35; (refine (ht _ (held2_end (by assumption))).mono ?_); rintro r wA ⟨rfl, hb3⟩))
  all_goals
    have hW : Below w.heap.size w wA := held2_end (w := w) (W := wA) (by assumption)
    have h2 := Hh.out.below hW
    have x3 := h2.c3
    have xc : wA.cell? ⟨b, off + 1, none⟩ = some (.int .i64 r0) := (hW.cell (p := ⟨b, off + 1, none⟩) hb).trans hc1
    have g2 := grown_below (World.grownBy.refl w (some B)) hW
    clear hk ht hb3
    go_wp2_with (first
      | (go_at_call 69; refine (hpart _).mono ?_; rintro r1 w5 ⟨rfl, rfl⟩)
      | (go_at_call 70; refine (HE.out _ g2 h2).mono ?_; intro r1 w6 hq; obtain rfl := HQ.out _ _ hq))
    (first | go_end0 | refine bodyPost_ret (results_none rfl _ _ _) rfl ?_)
    exact hq
end
end SWkF

end Go.Proofs.YtblbhlgihlgncaaDoor


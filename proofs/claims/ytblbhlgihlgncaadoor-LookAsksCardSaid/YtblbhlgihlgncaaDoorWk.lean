/- Contracts of look.Walk, general: enter. -/
import Derived.Test.YtblbhlgihlgncaaDoorLook2
import Derived.Test.YtblbhlgihlgncaaDoorBGet
import Derived.Test.YtblbhlgihlgncaaDoorWkM
set_option linter.unusedVariables false
set_option linter.unusedSimpArgs false
namespace Go.Proofs.YtblbhlgihlgncaaDoor
section SWk
open Go.RowKit

/-- Where a walk's machine stands, in its box; its path lies in a block. -/
abbrev WkS (w : World) (B : Nat) (sv : Value) (b off c : Nat) (l : List Int) (g : WSt) : Prop :=
  WK w B sv (.int .i64 g.t) (.slice (some ⟨b, off + g.k, none⟩) (l.length - g.k) (c - g.k)) (.int .i64 g.ask) (.int .i64 g.last) (U g.n) (.int .i64 g.code)
/-- What stays while the box alone is written. -/
structure WkD (w : World) (B : Nat) (s : Schema) (sv : Value) (b off c : Nat) (l : List Int) : Prop where
  sch : ∀ W, w.grownBy W (some B) → Sch W sv s
  cells : ∀ W, w.grownBy W (some B) → ∀ j, j < l.length → W.cell? ⟨b, off + j, none⟩ = some (.int .i64 (l.getD j 0))
  lc : l.length ≤ c
  bd : ∀ j, -1000000 ≤ l.getD j 0 ∧ l.getD j 0 ≤ 1000000
/-- What a call that turns the walk answers. -/
abbrev WkQ (w : World) (B : Nat) (sv : Value) (b off c : Nat) (l : List Int) (g : WSt) (r : Ending) (w' : World) : Prop :=
  r = .returned (.tuple #[]) ∧ WkS w' B sv b off c l g ∧ w.grownBy w' (some B)

theorem wk_end (w : World) (B : Nat) (v0 v1 v2 v3 v4 v5 v6 : Value) (x : BitVec 64) (c : Int) (h : WK w B v0 v1 v2 v3 v4 v5 v6) :
    Calls Tryd.prog 44 #[.pointer (some ⟨B, 0, none⟩), U x, .int .i64 c] w (WkP w B v0 v1 v2 (.int .i64 (-1)) v4 (U x) (.int .i64 c)) :=
  end_any w B v0 v1 v2 v3 v4 v5 v6 _ c h

section
variable (s : Schema) (sv : Value) (t at_ p0 : Int) (b off m c : Nat) (w : World) (B : Nat) (v1 v3 v4 v5 v6 : Value)
set_option maxHeartbeats 1000000 in
theorem enter_none (h : WK w B sv v1 (.slice (some ⟨b, off, none⟩) 0 c) v3 v4 v5 v6) :
    Calls Tryd.prog 43 #[.pointer (some ⟨B, 0, none⟩), .int .i64 t, .int .i64 at_] w (WkP w B sv (.int .i64 t) (.slice (some ⟨b, off, none⟩) 0 c) (.int .i64 (-1)) v4 (U 0#64) (.int .i64 1)) := by
  have g1 := grown_set (World.grownBy.refl w (some B)) (p := ⟨B, 1, none⟩) (.inr rfl) (.int .i64 t)
  have h1w := (setcells h (.int .i64 t)).1
  have f1 := h.fz 1
  have x1 := h.c1
  have y2 := h1w.c2
  have Hend := hid fun n => wk_end _ B _ _ _ _ _ _ _ 0#64 1 (h1w.drewN n)
  clear h
  go_enter Tryd.func43, Tryd.ntmps43
  go_wp2_with fail
  generalize w.setCell ⟨B, 1, none⟩ (.int .i64 t) = w1 at *
  go_quiet (fail)
  go_wp2_with fail
  (refine (Hend.out _).mono ?_); rintro r1 w2 ⟨rfl, h2, hg2⟩
  go_wp2_with fail
  (first | go_end0 | refine bodyPost_ret (results_none rfl _ _ _) rfl ?_)
  exact And.intro rfl (And.intro h2 (grown_more (grown_below g1 (below_drewN _ _ _)) hg2 (fun g e => .inr e)))

set_option maxHeartbeats 1000000 in
theorem enter_low (h : WK w B sv v1 (.slice (some ⟨b, off, none⟩) m c) v3 v4 v5 v6) (hm : 1 ≤ m) (hb : b ≠ B) (hc : w.cell? ⟨b, off, none⟩ = some (.int .i64 p0)) (h0 : p0 < 0) :
    Calls Tryd.prog 43 #[.pointer (some ⟨B, 0, none⟩), .int .i64 t, .int .i64 at_] w (WkP w B sv (.int .i64 t) (.slice (some ⟨b, off, none⟩) m c) (.int .i64 (-1)) v4 (U 0#64) (.int .i64 1)) := by
  have g1 := grown_set (World.grownBy.refl w (some B)) (p := ⟨B, 1, none⟩) (.inr rfl) (.int .i64 t)
  have h1w := (setcells h (.int .i64 t)).1
  have hcw : (w.setCell ⟨B, 1, none⟩ (.int .i64 t)).cell? ⟨b, off, none⟩ = some (.int .i64 p0) := by rw [World.cell?_setCell_other _ _ _ _ (by simp [hb])]; exact hc
  have f1 := h.fz 1
  have x1 := h.c1
  have y2 := h1w.c2
  have Hend := hid fun n => wk_end _ B _ _ _ _ _ _ _ 0#64 1 (h1w.drewN n)
  have hd0 : decide (p0 < 0) = true := decide_eq_true h0
  have hm0 : ((m : Int) == 0) = false := by rw [beq_eq_false_iff_ne]; omega
  have hm1 : 0 < m := hm
  clear h hc hm
  go_enter Tryd.func43, Tryd.ntmps43
  go_wp2_with fail
  generalize w.setCell ⟨B, 1, none⟩ (.int .i64 t) = w1 at *
  go_quiet (fail)
  go_wp2_with fail
  (refine (Hend.out _).mono ?_); rintro r1 w2 ⟨rfl, h2, hg2⟩
  go_wp2_with fail
  (first | go_end0 | refine bodyPost_ret (results_none rfl _ _ _) rfl ?_)
  exact And.intro rfl (And.intro h2 (grown_more (grown_below g1 (below_drewN _ _ _)) hg2 (fun g e => .inr e)))
set_option maxHeartbeats 1000000 in
theorem enter_high (h : WK w B sv v1 (.slice (some ⟨b, off, none⟩) m c) v3 v4 v5 v6) (hm : 1 ≤ m) (hb : b ≠ B) (hs : ∀ W, w.grownBy W (some B) → Sch W sv s) (hc : w.cell? ⟨b, off, none⟩ = some (.int .i64 p0)) (h0 : 0 ≤ p0) (h1 : ((typeL s t).length : Int) ≤ p0) :
    Calls Tryd.prog 43 #[.pointer (some ⟨B, 0, none⟩), .int .i64 t, .int .i64 at_] w (WkP w B sv (.int .i64 t) (.slice (some ⟨b, off, none⟩) m c) (.int .i64 (-1)) v4 (U 0#64) (.int .i64 1)) := by
  have g1 := grown_set (World.grownBy.refl w (some B)) (p := ⟨B, 1, none⟩) (.inr rfl) (.int .i64 t)
  have h1w := (setcells h (.int .i64 t)).1
  have hcw : (w.setCell ⟨B, 1, none⟩ (.int .i64 t)).cell? ⟨b, off, none⟩ = some (.int .i64 p0) := by rw [World.cell?_setCell_other _ _ _ _ (by simp [hb])]; exact hc
  have hf := fun n => nfields_any s sv t ((w.setCell ⟨B, 1, none⟩ (.int .i64 t)).drewN n) (hs _ (grown_below g1 (below_drewN _ _ n)))
  have f1 := h.fz 1
  have x1 := h.c1
  have y0 := h1w.c0
  have y2 := h1w.c2
  have Hend := hid fun n => wk_end _ B _ _ _ _ _ _ _ 0#64 1 (h1w.drewN n)
  generalize (typeL s t).length = n at *
  have hd0 : decide (p0 < 0) = false := decide_eq_false (by omega)
  have hd1 : decide ((n : Int) ≤ p0) = true := decide_eq_true h1
  have hm0 : ((m : Int) == 0) = false := by rw [beq_eq_false_iff_ne]; omega
  have hm1 : 0 < m := hm
  clear h hc hm hs h1w
  go_enter Tryd.func43, Tryd.ntmps43
  go_wp2_with fail
  generalize w.setCell ⟨B, 1, none⟩ (.int .i64 t) = w1 at *
  go_quiet ((go_at_call 38; exact Calls.quiet_of_same (hf _)))
  go_wp2_with fail
  (refine (Hend.out _).mono ?_); rintro r1 w2 ⟨rfl, h2, hg2⟩
  go_wp2_with fail
  (first | go_end0 | refine bodyPost_ret (results_none rfl _ _ _) rfl ?_)
  exact And.intro rfl (And.intro h2 (grown_more (grown_below g1 (below_drewN _ _ _)) hg2 (fun g e => .inr e)))
set_option maxHeartbeats 1000000 in
theorem enter_in (h : WK w B sv v1 (.slice (some ⟨b, off, none⟩) m c) v3 v4 v5 v6) (hm : 1 ≤ m) (hb : b ≠ B) (hs : ∀ W, w.grownBy W (some B) → Sch W sv s) (hc : w.cell? ⟨b, off, none⟩ = some (.int .i64 p0)) (h0 : 0 ≤ p0) (h1 : p0 < (typeL s t).length) (ha : 0 ≤ at_ ∧ at_ ≤ 1000000000000000) (hp : p0 ≤ 1000000) :
    Calls Tryd.prog 43 #[.pointer (some ⟨B, 0, none⟩), .int .i64 t, .int .i64 at_] w (WkP w B sv (.int .i64 t) (.slice (some ⟨b, off, none⟩) m c) (.int .i64 (at_ + p0)) v4 v5 v6) := by
  have g1 := grown_set (World.grownBy.refl w (some B)) (p := ⟨B, 1, none⟩) (.inr rfl) (.int .i64 t)
  have h1w := (setcells h (.int .i64 t)).1
  have hcw : (w.setCell ⟨B, 1, none⟩ (.int .i64 t)).cell? ⟨b, off, none⟩ = some (.int .i64 p0) := by rw [World.cell?_setCell_other _ _ _ _ (by simp [hb])]; exact hc
  have hf := fun n => nfields_any s sv t ((w.setCell ⟨B, 1, none⟩ (.int .i64 t)).drewN n) (hs _ (grown_below g1 (below_drewN _ _ n)))
  have f1 := h.fz 1
  have x1 := h.c1
  have hlen : (0 : Int) ≤ (typeL s t).length := by omega
  generalize (typeL s t).length = n at *
  have hd0 : decide (p0 < 0) = false := decide_eq_false (by omega)
  have hd1 : decide ((n : Int) ≤ p0) = false := decide_eq_false (by omega)
  have hm0 : ((m : Int) == 0) = false := by rw [beq_eq_false_iff_ne]; omega
  have hm1 : 0 < m := hm
  have hwr : IntKind.i64.wrap (at_ + p0) = at_ + p0 := IntWalk.i64_in _ (by omega)
  clear hc h hs hm
  go_enter Tryd.func43, Tryd.ntmps43
  go_wp2_with fail
  generalize w.setCell ⟨B, 1, none⟩ (.int .i64 t) = w1 at *
  have y0 := h1w.c0
  have y2 := h1w.c2
  have y3 := h1w.c3
  have z3 := h1w.fz 3
  go_quiet ((go_at_call 38; exact Calls.quiet_of_same (hf _)))
  go_wp2_with fail
  go_end0
  have h2 := (setcells (h1w.drewN nq) (.int .i64 (at_ + p0))).2.2.1
  have g2 := grown_set (grown_below g1 (below_drewN _ _ nq)) (p := ⟨B, 3, none⟩) (.inr rfl) (.int .i64 (at_ + p0))
  exact And.intro rfl (And.intro h2 g2)
end

/-- It enters a struct: the machine's step. -/
theorem enter_all {w : World} {B : Nat} {s : Schema} {sv : Value} {b off c : Nat} {l : List Int} {g : WSt} (t a : Int) (h : WkS w B sv b off c l g) (D : WkD w B s sv b off c l) (hb : b ≠ B) (ha : 0 ≤ a ∧ a ≤ 1000000000000000) :
    Calls Tryd.prog 43 #[.pointer (some ⟨B, 0, none⟩), .int .i64 t, .int .i64 a] w (WkQ w B sv b off c l (enterV s l g t a)) := by
  by_cases hk : l.length ≤ g.k
  · have e0 : l.length - g.k = 0 := by omega
    have hV : enterV s l g t a = ⟨t, g.k, -1, g.last, 0#64, 1⟩ := by unfold enterV; rw [if_pos (.inl hk)]
    rw [hV]
    have hh := h
    rw [WkS, e0] at hh
    have := enter_none sv t a b (off + g.k) (c - g.k) w B _ _ _ _ _ hh
    refine this.mono fun r w' hq => ?_
    rw [WkQ, WkS, e0]; exact hq
  have hc := D.cells w (World.grownBy.refl w (some B)) g.k (by omega)
  have hbd := D.bd g.k
  by_cases h0 : l.getD g.k 0 < 0
  · have hV : enterV s l g t a = ⟨t, g.k, -1, g.last, 0#64, 1⟩ := by unfold enterV; rw [if_pos (.inr (.inl h0))]
    rw [hV]
    exact enter_low sv t a _ b (off + g.k) (l.length - g.k) (c - g.k) w B _ _ _ _ _ h (by omega) hb hc h0
  by_cases h1 : ((typeL s t).length : Int) ≤ l.getD g.k 0
  · have hV : enterV s l g t a = ⟨t, g.k, -1, g.last, 0#64, 1⟩ := by unfold enterV; rw [if_pos (.inr (.inr h1))]
    rw [hV]
    exact enter_high s sv t a _ b (off + g.k) (l.length - g.k) (c - g.k) w B _ _ _ _ _ h (by omega) hb D.sch hc (by omega) h1
  · have hV : enterV s l g t a = ⟨t, g.k, a + l.getD g.k 0, g.last, g.n, g.code⟩ := by unfold enterV; rw [if_neg (by omega)]
    rw [hV]
    exact enter_in s sv t a _ b (off + g.k) (l.length - g.k) (c - g.k) w B _ _ _ _ _ h (by omega) hb D.sch hc (by omega) (by omega) ha hbd.2
end SWk

end Go.Proofs.YtblbhlgihlgncaaDoor


/- Contracts of look.Walk, general: item. -/
import Derived.Test.YtblbhlgihlgncaaDoorWk
set_option linter.unusedVariables false
set_option linter.unusedSimpArgs false
namespace Go.Proofs.YtblbhlgihlgncaaDoor
section SWkI
open Go.RowKit

section
variable (s : Schema) (sv : Value) (ty to i : Int) (b off m c : Nat) (w : World) (B : Nat) (v1 v2 v3 v4 v5 v6 : Value)
set_option maxHeartbeats 1000000 in
theorem item_end (h : WK w B sv v1 v2 v3 v4 v5 v6) (hs : ∀ W, w.grownBy W (some B) → Sch W sv s) (hc : w.cell? ⟨b, off, none⟩ = some (.int .i64 i)) :
    Calls Tryd.prog 70 #[.pointer (some ⟨B, 0, none⟩), .int .i64 5, .int .i64 ty, .int .i64 to, .slice (some ⟨b, off, none⟩) 1 c] w (WkP w B sv v1 v2 (.int .i64 (-1)) v4 (U (BitVec.ofNat 64 (typeL s ty).length)) (.int .i64 0)) := by
  have hf := nfields_any s sv ty w (hs w (World.grownBy.refl w (some B)))
  have Hend := hid fun x => wk_end w B _ _ _ _ _ _ _ x 0 h
  have y0 := h.c0
  generalize (typeL s ty).length = n at *
  clear h hs
  go_enter Tryd.func70, Tryd.ntmps70
  go_wp2_with ((refine hf.mono ?_); rintro r1 w1 ⟨rfl, rfl⟩)
  (refine (Hend.out _).mono ?_); rintro r1 w2 ⟨rfl, h2, hg2⟩
  go_wp2_with fail
  (first | go_end0 | refine bodyPost_ret (results_none rfl _ _ _) rfl ?_)
  exact And.intro rfl (And.intro h2 hg2)
set_option maxRecDepth 100000 in
set_option maxHeartbeats 1000000 in
theorem item_many (h : WK w B sv v1 v2 v3 v4 v5 v6) (hs : ∀ W, w.grownBy W (some B) → Sch W sv s) (hc : w.cell? ⟨b, off, none⟩ = some (.int .i64 i)) (hm : 2 ≤ m) (hmc : m ≤ c) (hb1 : 0 ≤ to + i * (typeL s ty).length ∧ to + i * (typeL s ty).length ≤ 1000000000000000) (hb2 : -1000000000000000 ≤ i * (typeL s ty).length ∧ i * (typeL s ty).length ≤ 1000000000000000) (Q : Ending → World → Prop)
    (hQ : ∀ r w', Q r w' → r = .returned (.tuple #[]))
    (henter : ∀ W, w.grownBy W (some B) → WK W B sv v1 (.slice (some ⟨b, off + 1, none⟩) (m - 1) (c - 1)) v3 v4 v5 v6 → Calls Tryd.prog 43 #[.pointer (some ⟨B, 0, none⟩), .int .i64 ty, .int .i64 (to + i * (typeL s ty).length)] W Q) :
    Calls Tryd.prog 70 #[.pointer (some ⟨B, 0, none⟩), .int .i64 5, .int .i64 ty, .int .i64 to, .slice (some ⟨b, off, none⟩) m c] w (Q) := by
  have hf := nfields_any s sv ty w (hs w (World.grownBy.refl w (some B)))
  have y0 := h.c0
  have h2 := (setcells h (.slice (some ⟨b, off + 1, none⟩) (m - 1) (c - 1))).2.1
  have g2 := grown_set (World.grownBy.refl w (some B)) (p := ⟨B, 2, none⟩) (.inr rfl) (.slice (some ⟨b, off + 1, none⟩) (m - 1) (c - 1))
  have he := henter _ g2 h2
  have HQ := hid hQ
  have f2 := h.fz 2
  have x2 := h.c2
  generalize (typeL s ty).length = n at *
  have hm0 : ((m : Int) == 1) = false := by rw [beq_eq_false_iff_ne]; omega
  have hm1 : 0 < m := by omega
  have hm2 : (1 : Int) ≤ (m : Int) := by omega
  have hm3 : (m : Int) ≤ (c : Int) := by omega
  have hm4 : (1 : Int) ≤ (c : Int) := by omega
  obtain ⟨jz, hjz⟩ : ∃ x, x = i * (n : Int) := ⟨_, rfl⟩
  rw [← hjz] at he hb1 hb2
  have He := hid he
  have hw1 : IntKind.i64.wrap (i * (n : Int)) = jz := by rw [← hjz]; exact IntWalk.i64_in _ (by omega)
  have hw2 : IntKind.i64.wrap (to + jz) = to + jz := IntWalk.i64_in _ (by omega)
  clear he hjz
  clear h hs henter hQ g2 h2
  go_enter Tryd.func70, Tryd.ntmps70
  go_wp2_with ((refine hf.mono ?_); rintro r1 w1 ⟨rfl, rfl⟩)
  (refine He.out.mono ?_); intro r1 w2 hq
  obtain rfl := HQ.out _ _ hq
  go_wp2_with fail
  (first | go_end0 | refine bodyPost_ret (results_none rfl _ _ _) rfl ?_)
  exact hq
set_option maxHeartbeats 1000000 in
theorem item_long (h : WK w B sv v1 v2 v3 v4 v5 v6) (hs : ∀ W, w.grownBy W (some B) → Sch W sv s) (hc : w.cell? ⟨b, off, none⟩ = some (.int .i64 i)) (kd : Int) (hkd : kd = 2 ∨ kd = 3) (hm : 2 ≤ m) :
    Calls Tryd.prog 70 #[.pointer (some ⟨B, 0, none⟩), .int .i64 kd, .int .i64 ty, .int .i64 to, .slice (some ⟨b, off, none⟩) m c] w (WkP w B sv v1 v2 (.int .i64 (-1)) v4 (U 0#64) (.int .i64 24)) := by
  rcases hkd with rfl | rfl
  all_goals
    have hf := nfields_any s sv ty w (hs w (World.grownBy.refl w (some B)))
    have y0 := h.c0
    have Hend := hid (wk_end w B _ _ _ _ _ _ _ 0#64 24 h)
    generalize (typeL s ty).length = n at *
    have hm0 : decide ((1 : Int) < (m : Int)) = true := decide_eq_true (by omega)
    have hm1 : 0 < m := by omega
    clear h hs
    go_enter Tryd.func70, Tryd.ntmps70
    go_wp2_with ((refine hf.mono ?_); rintro r1 w1 ⟨rfl, rfl⟩)
    (refine Hend.out.mono ?_); rintro r1 w2 ⟨rfl, h2, hg2⟩
    go_wp2_with fail
    (first | go_end0 | refine bodyPost_ret (results_none rfl _ _ _) rfl ?_)
    exact And.intro rfl (And.intro h2 hg2)
set_option maxHeartbeats 1000000 in
theorem item_nums (h : WK w B sv v1 v2 v3 v4 v5 v6) (hs : ∀ W, w.grownBy W (some B) → Sch W sv s) (hc : w.cell? ⟨b, off, none⟩ = some (.int .i64 i)) (hb1 : 0 ≤ to + i ∧ to + i ≤ 1000000000000000) :
    Calls Tryd.prog 70 #[.pointer (some ⟨B, 0, none⟩), .int .i64 3, .int .i64 ty, .int .i64 to, .slice (some ⟨b, off, none⟩) 1 c] w (WkP w B sv v1 (.slice (some ⟨b, off, none⟩) 1 c) (.int .i64 (to + i)) (.int .i64 3) v5 v6) := by
  have hf := nfields_any s sv ty w (hs w (World.grownBy.refl w (some B)))
  have y0 := h.c0
  have h1 := (setcells h (.slice (some ⟨b, off, none⟩) 1 c)).2.1
  have h2 := (setcells h1 (.int .i64 3)).2.2.2
  have h3 := (setcells h2 (.int .i64 (to + i))).2.2.1
  have g1 := grown_set (World.grownBy.refl w (some B)) (p := ⟨B, 2, none⟩) (.inr rfl) (.slice (some ⟨b, off, none⟩) 1 c)
  have g2 := grown_set g1 (p := ⟨B, 4, none⟩) (.inr rfl) (.int .i64 3)
  have g3 := grown_set g2 (p := ⟨B, 3, none⟩) (.inr rfl) (.int .i64 (to + i))
  have Hend := hid (And.intro h3 g3)
  have y2 := h.c2
  have y3 := h.c3
  have y4 := h.c4
  have z2 := h.fz 2
  have z3 := h.fz 3
  have z4 := h.fz 4
  generalize (typeL s ty).length = n at *
  have hw2 : IntKind.i64.wrap (to + i) = to + i := IntWalk.i64_in _ (by omega)
  clear h h1 h2 h3 g1 g2 g3 hs
  go_enter Tryd.func70, Tryd.ntmps70
  go_wp2_with ((refine hf.mono ?_); rintro r1 w1 ⟨rfl, rfl⟩)
  (first | go_end0 | refine bodyPost_ret (results_none rfl _ _ _) rfl ?_)
  exact And.intro rfl Hend.out
set_option maxHeartbeats 1000000 in
theorem item_bytes (h : WK w B sv v1 v2 v3 v4 v5 v6) (hs : ∀ W, w.grownBy W (some B) → Sch W sv s) (hc : w.cell? ⟨b, off, none⟩ = some (.int .i64 i)) (h0 : 0 ≤ i) (hb1 : 0 ≤ to + i / 8 ∧ to + i / 8 ≤ 1000000000000000) (hi : i ≤ 1000000000) :
    Calls Tryd.prog 70 #[.pointer (some ⟨B, 0, none⟩), .int .i64 2, .int .i64 ty, .int .i64 to, .slice (some ⟨b, off, none⟩) 1 c] w (WkP w B sv v1 (.slice (some ⟨b, off, none⟩) 1 c) (.int .i64 (to + i / 8)) (.int .i64 2) v5 v6) := by
  have hf := nfields_any s sv ty w (hs w (World.grownBy.refl w (some B)))
  have y0 := h.c0
  have h1 := (setcells h (.slice (some ⟨b, off, none⟩) 1 c)).2.1
  have h2 := (setcells h1 (.int .i64 2)).2.2.2
  have h3 := (setcells h2 (.int .i64 (to + i / 8))).2.2.1
  have g1 := grown_set (World.grownBy.refl w (some B)) (p := ⟨B, 2, none⟩) (.inr rfl) (.slice (some ⟨b, off, none⟩) 1 c)
  have g2 := grown_set g1 (p := ⟨B, 4, none⟩) (.inr rfl) (.int .i64 2)
  have g3 := grown_set g2 (p := ⟨B, 3, none⟩) (.inr rfl) (.int .i64 (to + i / 8))
  have Hend := hid (And.intro h3 g3)
  have y2 := h.c2
  have y3 := h.c3
  have y4 := h.c4
  have z2 := h.fz 2
  have z3 := h.fz 3
  have z4 := h.fz 4
  generalize (typeL s ty).length = n at *
  have hw2 : IntKind.i64.wrap (to + i / 8) = to + i / 8 := IntWalk.i64_in _ (by omega)
  have hdv : i.tdiv 8 = i / 8 := Int.tdiv_eq_ediv_of_nonneg h0
  have hw3 : IntKind.i64.wrap (i / 8) = i / 8 := IntWalk.i64_in _ (by omega)
  clear h h1 h2 h3 g1 g2 g3 hs
  go_enter Tryd.func70, Tryd.ntmps70
  go_wp2_with ((refine hf.mono ?_); rintro r1 w1 ⟨rfl, rfl⟩)
  (first | go_end0 | refine bodyPost_ret (results_none rfl _ _ _) rfl ?_)
  exact And.intro rfl Hend.out
end

/-- It goes on to one of a row: the machine's step. -/
theorem item_all {w : World} {B : Nat} {s : Schema} {sv : Value} {b off c : Nat} {l : List Int} {g : WSt} (kind ty to : Int) (hkind : kind = 2 ∨ kind = 3 ∨ kind = 5) (h : WkS w B sv b off c l g) (D : WkD w B s sv b off c l) (hb : b ≠ B)
    (hk : g.k + 2 ≤ l.length) (h0 : 0 ≤ l.getD (g.k + 1) 0) (hsz : (typeL s ty).length ≤ 1000000) (hto : 0 ≤ to ∧ to ≤ 10000000000000) :
    Calls Tryd.prog 70 #[.pointer (some ⟨B, 0, none⟩), .int .i64 kind, .int .i64 ty, .int .i64 to, .slice (some ⟨b, off + g.k + 1, none⟩) (l.length - g.k - 1) (c - g.k - 1)] w (WkQ w B sv b off c l (itemV s l g kind ty to)) := by
  have hc := D.cells w (World.grownBy.refl w (some B)) (g.k + 1) (by omega)
  have hbd := D.bd (g.k + 1)
  have hlc := D.lc
  have hz0 : (0 : Int) ≤ l.getD (g.k + 1) 0 * (typeL s ty).length := Int.mul_nonneg h0 (by omega)
  have hz1 : l.getD (g.k + 1) 0 * (typeL s ty).length ≤ 1000000 * 1000000 := Int.mul_le_mul hbd.2 (by omega) (by omega) (by omega)
  by_cases h5 : kind = 5
  · subst h5
    unfold itemV
    rw [if_pos rfl]
    by_cases h2 : l.length = g.k + 2
    · rw [if_pos h2, show l.length - g.k - 1 = 1 by omega]
      exact item_end s sv ty to _ b (off + g.k + 1) (c - g.k - 1) w B _ _ _ _ _ _ h D.sch hc
    · rw [if_neg h2]
      refine item_many s sv ty to _ b (off + g.k + 1) (l.length - g.k - 1) (c - g.k - 1) w B _ _ _ _ _ _ h D.sch hc (by omega) (by omega) (by omega) (by omega) _ (fun r w' hq => hq.1) (fun W hW hWK => ?_)
      have D2 : WkD W B s sv b off c l := ⟨fun W2 h2 => D.sch W2 (grown_more hW h2 (fun g e => .inr e)), fun W2 h2 => D.cells W2 (grown_more hW h2 (fun g e => .inr e)), D.lc, D.bd⟩
      refine (enter_all (g := ⟨g.t, g.k + 2, g.ask, g.last, g.n, g.code⟩) ty _ hWK D2 hb (by omega)).mono fun r w' hq => ⟨hq.1, hq.2.1, grown_more hW hq.2.2 (fun g e => .inr e)⟩
  · unfold itemV
    rw [if_neg h5]
    have hkd : kind = 2 ∨ kind = 3 := by omega
    by_cases h2 : g.k + 2 < l.length
    · rw [if_pos h2]
      exact item_long s sv ty to _ b (off + g.k + 1) (l.length - g.k - 1) (c - g.k - 1) w B _ _ _ _ _ _ h D.sch hc kind hkd (by omega)
    · rw [if_neg h2, show l.length - g.k - 1 = 1 by omega]
      have e1 : l.length - (g.k + 1) = 1 := by omega
      rcases hkd with rfl | rfl
      · rw [if_pos rfl]
        refine (item_bytes s sv ty to _ b (off + g.k + 1) (c - g.k - 1) w B _ _ _ _ _ _ h D.sch hc h0 (by omega) (by omega)).mono fun r w' hq => ?_
        rw [WkQ, WkS, e1]; exact hq
      · rw [if_neg (by decide)]
        refine (item_nums s sv ty to _ b (off + g.k + 1) (c - g.k - 1) w B _ _ _ _ _ _ h D.sch hc (by omega)).mono fun r w' hq => ?_
        rw [WkQ, WkS, e1]; exact hq
end SWkI

end Go.Proofs.YtblbhlgihlgncaaDoor


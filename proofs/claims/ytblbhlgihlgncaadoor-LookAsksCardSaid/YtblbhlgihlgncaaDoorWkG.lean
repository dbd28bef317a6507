/- Contracts of look.Walk, general: field and Give, as the machine's steps. -/
import Derived.Test.YtblbhlgihlgncaaDoorWkF
set_option linter.unusedVariables false
set_option linter.unusedSimpArgs false
namespace Go.Proofs.YtblbhlgihlgncaaDoor
section SWkG
open Go.RowKit

theorem WkD.next {w W : World} {B : Nat} {s : Schema} {sv : Value} {b off c : Nat} {l : List Int} (D : WkD w B s sv b off c l) (hW : w.grownBy W (some B)) : WkD W B s sv b off c l :=
  ⟨fun W2 h2 => D.sch W2 (grown_more hW h2 (fun g e => .inr e)), fun W2 h2 => D.cells W2 (grown_more hW h2 (fun g e => .inr e)), D.lc, D.bd⟩

/-- It goes on from a field's word: the machine's step. -/
theorem field_all {w : World} {B : Nat} {s : Schema} {sv : Value} {b off c : Nat} {l : List Int} {g : WSt} (x : BitVec 64) (h : WkS w B sv b off c l g) (D : WkD w B s sv b off c l) (hb : b ≠ B) (hbl : b < w.heap.size)
    (hk : g.k < l.length) (ha : 0 ≤ g.ask ∧ g.ask ≤ 1000000000000) (hf : 1 ≤ (fieldP s g.t (l.getD g.k 0)).1 ∧ (fieldP s g.t (l.getD g.k 0)).1 ≤ 5) (hsz : (typeL s (fieldP s g.t (l.getD g.k 0)).2).length ≤ 1000000) :
    Calls Tryd.prog 46 #[.pointer (some ⟨B, 0, none⟩), U x] w (WkQ w B sv b off c l (fieldV s l g x)) := by
  have hs := D.sch w (World.grownBy.refl w (some B))
  have hc0 := D.cells w (World.grownBy.refl w (some B)) g.k hk
  have hlc := D.lc
  have hlo : loN x < 4294967296 := by unfold loN; omega
  unfold fieldV
  obtain ⟨kd, ty, hfd⟩ : ∃ kd ty, fieldP s g.t (l.getD g.k 0) = (kd, ty) := ⟨_, _, rfl⟩
  rw [hfd] at hf hsz
  simp only [hfd] at hf hsz ⊢
  by_cases h1 : l.length = g.k + 1
  · rw [if_pos h1]
    have e1 : l.length - g.k = 1 := by omega
    rw [WkS, e1] at h
    by_cases hk1 : kd = 1
    · rw [if_pos hk1]
      refine (field_word s sv kd ty g.t _ g.ask x b (off + g.k) (c - g.k) w B _ _ _ h hs hbl hfd hc0 ha (by omega) hk1).mono fun r w' hq => ?_
      rw [WkQ, WkS, WSt.fin, e1]; exact hq
    · rw [if_neg hk1]
      refine (field_size s sv kd ty g.t _ g.ask x b (off + g.k) (c - g.k) w B _ _ _ h hs hbl hfd hc0 ha (by omega) hk1).mono fun r w' hq => ?_
      rw [WkQ, WkS, WSt.fin, e1]; exact hq
  rw [if_neg h1]
  have hc1 := D.cells w (World.grownBy.refl w (some B)) (g.k + 1) (by omega)
  by_cases hk1 : kd = 1
  · rw [if_pos hk1]
    exact field_kind s sv kd ty g.t _ _ g.ask x b (off + g.k) (l.length - g.k) (c - g.k) w B _ _ _ h hs hbl hfd hc0 ha (by omega) (by omega) hc1 hk1
  rw [if_neg hk1]
  by_cases hn : hiN x = 0
  · rw [if_pos hn]
    exact field_none s sv kd ty g.t _ _ g.ask x b (off + g.k) (l.length - g.k) (c - g.k) w B _ _ _ h hs hbl hfd hc0 ha (by omega) (by omega) hc1 hk1 hn
  rw [if_neg hn]
  by_cases hk4 : kd = 4
  · rw [if_pos hk4]
    refine field_one s sv kd ty g.t _ _ g.ask x b (off + g.k) (l.length - g.k) (c - g.k) w B _ _ _ h hs hbl hfd hc0 ha (by omega) (by omega) hc1 hk4 hn _ (fun r w' hq => hq.1) (fun W hW hWK => ?_)
    refine (enter_all (g := ⟨g.t, g.k + 1, g.ask, g.last, g.n, g.code⟩) ty _ hWK (D.next hW) hb (by omega)).mono fun r w' hq => ⟨hq.1, hq.2.1, grown_more hW hq.2.2 (fun g e => .inr e)⟩
  rw [if_neg hk4]
  by_cases hr0 : l.getD (g.k + 1) 0 < 0
  · rw [if_pos (.inl hr0)]
    exact field_low s sv kd ty g.t _ _ g.ask x b (off + g.k) (l.length - g.k) (c - g.k) w B _ _ _ h hs hbl hfd hc0 ha (by omega) (by omega) hc1 hk1 hk4 hn hr0
  by_cases hr : (hiN x : Int) ≤ l.getD (g.k + 1) 0
  · rw [if_pos (.inr hr)]
    exact field_high s sv kd ty g.t _ _ g.ask x b (off + g.k) (l.length - g.k) (c - g.k) w B _ _ _ h hs hbl hfd hc0 ha (by omega) (by omega) hc1 hk1 hk4 hn (by omega) hr
  rw [if_neg (by omega)]
  refine field_item s sv kd ty g.t _ _ g.ask x b (off + g.k) (l.length - g.k) (c - g.k) w B _ _ _ h hs hbl hfd hc0 ha (by omega) (by omega) hc1 hk1 hk4 hn (by omega) (by omega) _ (fun r w' hq => hq.1) (fun W hW hWK => ?_)
  exact (item_all kd ty _ (by omega) hWK (D.next hW) hb (by omega) (by omega) hsz (by omega)).mono fun r w' hq => ⟨hq.1, hq.2.1, grown_more hW hq.2.2 (fun g e => .inr e)⟩

section
variable (s : Schema) (sv : Value) (p0 ask : Int) (x : BitVec 64) (b off m c : Nat) (w : World) (B : Nat) (v0 v1 v2 v4 v5 v6 : Value)
theorem give_idle (h : WK w B v0 v1 v2 (.int .i64 (-1)) v4 v5 v6) : Calls Tryd.prog 23 #[.pointer (some ⟨B, 0, none⟩), U x] w fun r w' => r = .returned (.tuple #[]) ∧ w' = w := by
  have y3 := h.c3
  clear h
  go_enter Tryd.func23, Tryd.ntmps23
  go_wp2
  (first | go_end0 | refine bodyPost_ret (results_none rfl _ _ _) rfl ?_)
  exact ⟨rfl, rfl⟩
theorem give_nums (h : WK w B v0 v1 v2 (.int .i64 ask) (.int .i64 3) v5 v6) (ha : 0 ≤ ask) :
    Calls Tryd.prog 23 #[.pointer (some ⟨B, 0, none⟩), U x] w (WkP w B v0 v1 v2 (.int .i64 (-1)) (.int .i64 3) (U x) (.int .i64 0)) := by
  have hend := wk_end w B _ _ _ _ _ _ _ x 0 h
  have y3 := h.c3
  have y4 := h.c4
  have hz : (ask == -1) = false := by rw [beq_eq_false_iff_ne]; omega
  clear h
  go_enter Tryd.func23, Tryd.ntmps23
  go_wp2_with ((refine hend.mono ?_); rintro r1 w1 ⟨rfl, h1, hg1⟩)
  (first | go_end0 | refine bodyPost_ret (results_none rfl _ _ _) rfl ?_)
  exact And.intro rfl (And.intro h1 hg1)
theorem give_bytes (h : WK w B v0 v1 (.slice (some ⟨b, off, none⟩) m c) (.int .i64 ask) (.int .i64 2) v5 v6) (ha : 0 ≤ ask) (hm : 1 ≤ m) (hc : w.cell? ⟨b, off, none⟩ = some (.int .i64 p0)) (hp : 0 ≤ p0 ∧ p0 ≤ 1000000) :
    Calls Tryd.prog 23 #[.pointer (some ⟨B, 0, none⟩), U x] w (WkP w B v0 v1 (.slice (some ⟨b, off, none⟩) m c) (.int .i64 (-1)) (.int .i64 2) (U (getV x (8 * (p0 % 8)) 8)) (.int .i64 0)) := by
  have Hend := hid fun n y => wk_end _ B _ _ _ _ _ _ _ y 0 (h.drewN n)
  have y2 := h.c2
  have y3 := h.c3
  have y4 := h.c4
  have hz : (ask == -1) = false := by rw [beq_eq_false_iff_ne]; omega
  have hm1 : 0 < m := hm
  have htm : p0.tmod 8 = p0 % 8 := Int.tmod_eq_emod_of_nonneg hp.1
  have hqb : 0 ≤ p0 % 8 ∧ p0 % 8 < 8 := by omega
  have hget := fun W => bget_any x (8 * (p0 % 8)) 8 W (by omega) (by omega) (by omega) (by omega)
  clear h hm ha
  go_enter Tryd.func23, Tryd.ntmps23
  go_wp2_with fail
  (refine (hget _).mono ?_); rintro r1 w1 ⟨rfl, k, rfl⟩
  go_wp2_with fail
  (refine (Hend.out _ _).mono ?_); rintro r1 w2 ⟨rfl, h2, hg2⟩
  go_wp2_with fail
  (first | go_end0 | refine bodyPost_ret (results_none rfl _ _ _) rfl ?_)
  exact And.intro rfl (And.intro h2 (grown_more (grown_below (World.grownBy.refl w (some B)) (below_drewN _ _ _)) hg2 (fun g e => .inr e)))
theorem give_fields (h : WK w B v0 v1 v2 (.int .i64 ask) (.int .i64 0) v5 v6) (ha : 0 ≤ ask) (Q : Ending → World → Prop) (hQ : ∀ r w', Q r w' → r = .returned (.tuple #[])) (hfield : Calls Tryd.prog 46 #[.pointer (some ⟨B, 0, none⟩), U x] w Q) :
    Calls Tryd.prog 23 #[.pointer (some ⟨B, 0, none⟩), U x] w Q := by
  have y3 := h.c3
  have y4 := h.c4
  have hz : (ask == -1) = false := by rw [beq_eq_false_iff_ne]; omega
  have HQ := hid hQ
  have HF := hid hfield
  clear h hQ hfield
  go_enter Tryd.func23, Tryd.ntmps23
  go_wp2_with ((refine HF.out.mono ?_); intro r1 w6 hq; obtain rfl := HQ.out _ _ hq)
  (first | go_end0 | refine bodyPost_ret (results_none rfl _ _ _) rfl ?_)
  exact hq
end

/-- It is given a word: the machine's step. -/
theorem give_all {w : World} {B : Nat} {s : Schema} {sv : Value} {b off c : Nat} {l : List Int} {g : WSt} (x : BitVec 64) (h : WkS w B sv b off c l g) (D : WkD w B s sv b off c l) (hb : b ≠ B) (hbl : b < w.heap.size)
    (ha : g.ask = -1 ∨ (0 ≤ g.ask ∧ g.ask ≤ 1000000000000 ∧ g.k < l.length)) (hlast : g.last = 0 ∨ g.last = 3 ∨ (g.last = 2 ∧ 0 ≤ l.getD g.k 0))
    (hf : g.ask ≠ -1 → g.last = 0 → (1 ≤ (fieldP s g.t (l.getD g.k 0)).1 ∧ (fieldP s g.t (l.getD g.k 0)).1 ≤ 5) ∧ (typeL s (fieldP s g.t (l.getD g.k 0)).2).length ≤ 1000000) :
    Calls Tryd.prog 23 #[.pointer (some ⟨B, 0, none⟩), U x] w (WkQ w B sv b off c l (giveV s l g x)) := by
  obtain ⟨t, k, ask, last, n, code⟩ := g
  simp only at ha hlast hf
  unfold giveV
  simp only
  by_cases h1 : ask = -1
  · subst h1
    rw [if_pos rfl]
    exact (give_idle x w B _ _ _ _ _ _ h).mono fun r w' hq => ⟨hq.1, hq.2 ▸ h, hq.2 ▸ World.grownBy.refl w (some B)⟩
  rw [if_neg h1]
  have ha' : 0 ≤ ask ∧ ask ≤ 1000000000000 ∧ k < l.length := by omega
  by_cases h3 : last = 3
  · subst h3
    rw [if_pos rfl]
    exact give_nums ask x w B _ _ _ _ _ h ha'.1
  rw [if_neg h3]
  by_cases h2 : last = 2
  · subst h2
    rw [if_pos rfl]
    have hbd := D.bd k
    exact give_bytes _ ask x b (off + k) (l.length - k) (c - k) w B _ _ _ _ h ha'.1 (by omega) (D.cells w (World.grownBy.refl w (some B)) k ha'.2.2) (by omega)
  rw [if_neg h2]
  obtain rfl : last = 0 := by omega
  have hf' := hf h1 rfl
  exact give_fields ask x w B _ _ _ _ _ h ha'.1 _ (fun r w' hq => hq.1) (field_all (g := ⟨t, k, ask, 0, n, code⟩) x h D hb hbl ha'.2.2 ⟨ha'.1, ha'.2.1⟩ hf'.1 hf'.2)
end SWkG

end Go.Proofs.YtblbhlgihlgncaaDoor


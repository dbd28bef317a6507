/- valid.Check, valid.Visits. -/
import Derived.Test.YtblbhlgihlgncaaDoorVAll
import Derived.Test.YtblbhlgihlgncaaDoorValB
import Derived.Test.YtblbhlgihlgncaaDoorGc
import Derived.Deep.QuietTactic
import Derived.BigQuiet
set_option linter.unusedVariables false
set_option linter.unusedSimpArgs false
namespace Go.Proofs.YtblbhlgihlgncaaDoor
section SVCheck
open Go.RowKit

theorem grown_drop {w w' : World} {o : Obj} (h : (w.alloc o).grownBy w' (some w.heap.size)) : Below w.heap.size w w' := by
  have hb := below_alloc w o
  refine hb.grown (row := some w.heap.size) h (by simp) (fun k e => by have := Option.some.inj e; omega)

@[go_sem] theorem run_build_lk (a b : Option Addr) (n c m d : Nat) (w : World) : (Instr.build 159 #[(0, .slice a n c), (1, .slice b m d)]).run Tryd.prog w = .ok (.agg #[.slice a n c, .slice b m d, .int .i64 0]) w := run_build w 159 _ _ (by kernel_rfl)

/-- The error of some words: nothing, a code, or a code at a word. -/
def ErrW (w : World) (u : Value) (e : Int) : Option Nat → Prop
  | none => u = ErrV e
  | some p => ∃ A, u = .iface 165 (.pointer (some ⟨A, 0, none⟩)) ∧ AtB w A e (p : Int)
theorem ErrW.below {w w' : World} {u : Value} {e : Int} {p : Option Nat} (h : ErrW w u e p) (hb : Below w.heap.size w w') : ErrW w' u e p := by
  cases p with
  | none => exact h
  | some p =>
    obtain ⟨A, h1, h2⟩ := h
    exact ⟨A, h1, (hb.block A (Array.getElem?_eq_some_iff.1 h2).1).trans h2⟩

set_option maxRecDepth 100000 in
set_option maxHeartbeats 8000000 in
theorem vall_any (s : Schema) (ws : List (BitVec 64)) (sv wv : Value) (w : World) (hs : Sch w sv s) (hw : Row w 1 wv ws.length (ws.map U)) :
    Calls Tryd.prog 83 #[sv, wv] w fun r w' => ∃ u, r = .returned (.tuple #[u, .int .i64 (((allW s ws).2.2 : Nat) : Int)]) ∧ ErrW w' u (allW s ws).1 (allW s ws).2.1 ∧ Below w.heap.size w w' := by
  have hcheck := check_any s sv w hs
  obtain ⟨a, cap, rfl, hcap1, hcap2, _⟩ := hw.open
  have hm := hw.most
  unfold maxLen at hm
  cases hr : rightB s with
  | false =>
    have Ha := hid (show allW s ws = (1, none, 0) by unfold allW; rw [if_pos hr])
    rw [hr, show ErrV (if false = true then 0 else 1) = .iface 37 (.int .i64 1) from rfl] at hcheck
    rw [Ha.out]
    clear hw hs
    obtain ⟨L, hL⟩ : ∃ L, L = ws.length := ⟨_, rfl⟩
    rw [← hL] at hcap1 hm ⊢
    clear hL
    go_enter Tryd.func83, Tryd.ntmps83
    go_wp2_with fail
    ((refine hcheck.mono ?_); rintro r w1 ⟨rfl, hb1⟩)
    go_wp2_with fail
    ((refine (new_any 1 (by omega) _).mono ?_); rintro r w2 ⟨rfl, rfl⟩)
    go_wp2_with fail
    go_returns
    exact ⟨_, rfl, rfl, hb1⟩
  | true =>
    rw [hr, show ErrV (if true = true then 0 else 1) = .nilIface from rfl] at hcheck
    by_cases hlen : ws.length = 0 ∨ 200 < ws.length
    · have Ha := hid (allW_long hr hlen.symm)
      rw [Ha.out]
      obtain ⟨L, hL⟩ : ∃ L, L = ws.length := ⟨_, rfl⟩
      rw [← hL] at hcap1 hm hlen ⊢
      clear hL hw hs
      by_cases h0 : L = 0
      · subst h0
        go_enter Tryd.func83, Tryd.ntmps83
        go_wp2_with fail
        ((refine hcheck.mono ?_); rintro r w1 ⟨rfl, hb1⟩)
        go_wp2_with fail
        ((refine (new_any 21 (by omega) _).mono ?_); rintro r w2 ⟨rfl, rfl⟩)
        go_wp2_with fail
        go_returns
        exact ⟨_, rfl, rfl, hb1⟩
      · have h0' : ((L : Int) == 0) = false := by rw [beq_eq_false_iff_ne]; omega
        have h200 : (200 : Int) < (L : Int) := by omega
        clear hlen h0
        go_enter Tryd.func83, Tryd.ntmps83
        go_wp2_with fail
        ((refine hcheck.mono ?_); rintro r w1 ⟨rfl, hb1⟩)
        go_wp2_with fail
        ((refine (new_any 21 (by omega) _).mono ?_); rintro r w2 ⟨rfl, rfl⟩)
        go_wp2_with fail
        go_returns
        exact ⟨_, rfl, rfl, hb1⟩
    · have Ha : allW s ws = (match runW s ws with
        | (c, none) => (0, none, c)
        | (c, some (e, p)) => (e, some p, c)) := by unfold allW; rw [if_neg (by rw [hr]; decide), if_neg hlen]; rfl
      have Hl0 := hid (show 0 < ws.length by omega)
      have hx : ∀ W, Below w.heap.size w W → Lx s ws sv a cap W.heap.size W := fun W hW => ⟨hr, hs.below hW (Nat.le_refl _), hw.below hW (Nat.le_refl _), Nat.le_refl _, by omega⟩
      have Hrun := hid fun (W : World) (hW : Below w.heap.size w W) => vrun_any (hx W hW) (W.alloc (.cells #[sv, .slice a ws.length cap, .int .i64 0] 159)) (below_alloc W _) (by
        unfold LkB
        show (W.heap.push _)[W.heap.size]? = _
        simp) Hl0.out
      obtain ⟨sa, scap, hsv, _, _, _⟩ := hs.shape
      obtain ⟨ns, hns⟩ : ∃ m, m = s.length := ⟨_, rfl⟩
      rw [← hns] at hsv
      subst hsv
      clear hns
      obtain ⟨⟨c, e⟩, hR⟩ : ∃ r, runW s ws = r := ⟨_, rfl⟩
      rw [hR] at Hrun Ha
      obtain ⟨E, P, hP, hconv⟩ : ∃ E P, allW s ws = (E, P, c) ∧ ∀ W u, ErrL W u e → ErrW W u E P := by
        cases e with
        | none => exact ⟨0, none, Ha, fun W u h => h⟩
        | some e => exact ⟨e.1, some e.2, Ha, fun W u h => h⟩
      have HA := hid hP
      have Hconv := hid hconv
      obtain ⟨L, hL⟩ : ∃ L, L = ws.length := ⟨_, rfl⟩
      have h0' : ((L : Int) == 0) = false := by rw [beq_eq_false_iff_ne]; omega
      have h200 : (L : Int) ≤ 200 := by omega
      rw [← hL] at hcap1 hm Hrun ⊢
      rw [HA.out]
      clear hL hw hs hx hlen hR Ha hP hconv
      go_enter Tryd.func83, Tryd.ntmps83
      go_wp2_with fail
      ((refine hcheck.mono ?_); rintro r w1 ⟨rfl, hb1⟩)
      go_wp2_with fail
      ((refine (Hrun.out w1 hb1).mono ?_); rintro r w2 ⟨⟨u, rfl, hE⟩, k1, k2⟩)
      have c2 := k1.c2
      have hb2 := grown_drop k2
      go_wp2_with fail
      go_quiet (fail)
      go_wp2_with fail
      go_returns
      have hb3 := (via hb1 hb2).trans (below_drewN _ w2 nq)
      exact ⟨u, rfl, ErrW.below (Hconv.out _ _ hE) (below_drewN _ _ _), hb3⟩

theorem vcheck_any (s : Schema) (ws : List (BitVec 64)) (sv wv : Value) (w : World) (hs : Sch w sv s) (hw : Row w 1 wv ws.length (ws.map U)) :
    Calls Tryd.prog 76 #[sv, wv] w fun r w' => ∃ u, r = .returned u ∧ ErrW w' u (allW s ws).1 (allW s ws).2.1 ∧ Below w.heap.size w w' := by
  have h := vall_any s ws sv wv w hs hw
  go_enter Tryd.func76, Tryd.ntmps76
  go_wp2_with fail
  ((refine h.mono ?_); rintro r w1 ⟨u, rfl, h1, h2⟩)
  go_wp2_with fail
  go_returns
  exact ⟨u, rfl, h1, h2⟩
end SVCheck

end Go.Proofs.YtblbhlgihlgncaaDoor


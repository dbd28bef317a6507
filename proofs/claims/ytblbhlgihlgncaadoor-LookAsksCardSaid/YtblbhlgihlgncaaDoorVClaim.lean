/- valid's look: what ends it; words are claimed. -/
import Derived.Test.YtblbhlgihlgncaaDoorValV
import Derived.Test.YtblbhlgihlgncaaDoorGa
import Derived.Test.YtblbhlgihlgncaaDoorGc
import Derived.BigQuiet
import Derived.WalkLawsBesides
set_option linter.unusedVariables false
set_option linter.unusedSimpArgs false
namespace Go.Proofs.YtblbhlgihlgncaaDoor
section SVClaim
open Go.RowKit

/-- The trouble that ends a look. -/
def TrV (e p : Int) : Value := .iface 161 (.agg #[.int .i64 e, .int .i64 p])
def EndV : Option (Int × Nat) → Ending
  | none => .returned (.tuple #[])
  | some (e, p) => .panicked [{ v := TrV e (p : Int), recovered := false }]

theorem vend_any (e p : Int) (w : World) : Calls Tryd.prog 91 #[.int .i64 e, .int .i64 p] w fun r w' => r = .panicked [{ v := TrV e p, recovered := false }] ∧ w' = w := by
  go_enter Tryd.func91, Tryd.ntmps91
  go_wp2
  exact ⟨rfl, rfl, rfl⟩

/-- A look lies in block g: its schema, its words, how many were claimed. -/
def LkB (w : World) (g : Nat) (sv wv : Value) (c : Nat) : Prop := w.heap[g]? = some (.cells #[sv, wv, .int .i64 (c : Int)] 159 (0, 0))
theorem LkB.lt {w : World} {g : Nat} {sv wv : Value} {c : Nat} (h : LkB w g sv wv c) : g < w.heap.size := (Array.getElem?_eq_some_iff.1 h).1
theorem LkB.c0 {w : World} {g : Nat} {sv wv : Value} {c : Nat} (h : LkB w g sv wv c) : w.cell? ⟨g, 0, none⟩ = some sv := by
  unfold LkB at h
  simp only [World.cell?, h]
  rfl
theorem LkB.c1 {w : World} {g : Nat} {sv wv : Value} {c : Nat} (h : LkB w g sv wv c) : w.cell? ⟨g, 1, none⟩ = some wv := by
  unfold LkB at h
  simp only [World.cell?, h]
  rfl
theorem LkB.c2 {w : World} {g : Nat} {sv wv : Value} {c : Nat} (h : LkB w g sv wv c) : w.cell? ⟨g, 2, none⟩ = some (.int .i64 (c : Int)) := by
  unfold LkB at h
  simp only [World.cell?, h]
  rfl
theorem LkB.fz {w : World} {g : Nat} {sv wv : Value} {c : Nat} (h : LkB w g sv wv c) : w.frozen? ⟨g, 2, none⟩ = false := by
  unfold LkB at h
  simp [World.frozen?, h]
theorem LkB.keep {w w' : World} {g : Nat} {sv wv : Value} {c : Nat} (h : LkB w g sv wv c) (hk : w'.heap[g]? = w.heap[g]?) : LkB w' g sv wv c := hk.trans h
theorem LkB.below {w w' : World} {g : Nat} {sv wv : Value} {c : Nat} (h : LkB w g sv wv c) (hb : Below w.heap.size w w') : LkB w' g sv wv c := h.keep (hb.block g h.lt)
theorem LkB.set {w : World} {g : Nat} {sv wv : Value} {c : Nat} (h : LkB w g sv wv c) (n : Nat) : LkB (w.setCell ⟨g, 2, none⟩ (.int .i64 (n : Int))) g sv wv n := by
  unfold LkB at h ⊢
  show (w.heap.modify g _)[g]? = _
  rw [Array.getElem?_modify, h]
  simp
theorem vclaim_any (g : Nat) (sv : Value) (a : Option Addr) (L cap c to n p : Nat) (w : World) (h : LkB w g sv (.slice a L cap) c) (hc : c ≤ 1000000) (hn : n ≤ 1000000) (ht : to ≤ 1000000000000) (hL : L ≤ 1000000) :
    Calls Tryd.prog 92 #[.pointer (some ⟨g, 0, none⟩), .int .i64 to, .int .i64 n, .int .i64 p] w fun r w' => r = EndV (clV L c to n p).2 ∧ LkB w' g sv (.slice a L cap) (clV L c to n p).1 ∧ w.grownBy w' (some g) := by
  have c1 := h.c1
  have c2 := h.c2
  have fz := h.fz
  have hs := hid (h.set (c + n))
  have hg := hid (grown_set (grown_refl w (some g)) (p := ⟨g, 2, none⟩) (.inr rfl) (.int .i64 ((c + n : Nat) : Int)))
  unfold clV
  rw [Int.natCast_add] at hs hg
  by_cases h1 : L < to + n
  · have h1' : (L : Int) < (to : Int) + (n : Int) := by omega
    rw [if_pos h1]
    go_enter Tryd.func92, Tryd.ntmps92
    go_wp2_with fail
    ((refine (vend_any 23 (p : Int) _).mono ?_); rintro r w1 ⟨rfl, rfl⟩)
    go_wp2_with fail
    exact ⟨rfl, rfl, hs.out, hg.out⟩
  · have h1' : (to : Int) + (n : Int) ≤ (L : Int) := by omega
    rw [if_neg h1]
    by_cases h2 : L ≤ c + n
    · have h2' : (L : Int) ≤ (c : Int) + (n : Int) := by omega
      rw [if_pos h2]
      clear h1 h2
      go_enter Tryd.func92, Tryd.ntmps92
      go_wp2_with fail
      go_quiet (fail)
      go_wp2_with fail
      ((refine (vend_any 16 (p : Int) _).mono ?_); rintro r w1 ⟨rfl, rfl⟩)
      go_wp2_with fail
      exact ⟨rfl, rfl, hs.out.below (below_drewN _ _ _), grown_below hg.out (below_drewN _ _ _)⟩
    · have h2' : (c : Int) + (n : Int) < (L : Int) := by omega
      rw [if_neg h2]
      clear h1 h2
      go_enter Tryd.func92, Tryd.ntmps92
      go_wp2_with fail
      go_quiet (fail)
      go_wp2_with fail
      go_returns
      exact ⟨rfl, hs.out.below (below_drewN _ _ _), grown_below hg.out (below_drewN _ _ _)⟩
end SVClaim

end Go.Proofs.YtblbhlgihlgncaaDoor


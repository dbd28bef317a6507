/- The document's look: a trouble; words are claimed. -/
import Derived.Test.YtblbhlgihlgncaaDoorValV
import Derived.Test.YtblbhlgihlgncaaDoorGa
import Derived.Test.YtblbhlgihlgncaaDoorGc
set_option linter.unusedVariables false
set_option linter.unusedSimpArgs false
namespace Go.Proofs.YtblbhlgihlgncaaDoor
section SRLook
open Go.RowKit

/-- What was found so far, as it lies in memory. -/
def LrC : LS → Array Value
  | (c, none) => #[.int .i64 0, .int .i64 0, .bool false, .int .i64 (c : Int)]
  | (c, some (e, p)) => #[.int .i64 e, .int .i64 (p : Int), .bool true, .int .i64 (c : Int)]
def LrB (w : World) (g : Nat) (r : LS) : Prop := w.heap[g]? = some (.cells (LrC r) 77 (0, 0))
theorem LrB.lt {w : World} {g : Nat} {r : LS} (h : LrB w g r) : g < w.heap.size := (Array.getElem?_eq_some_iff.1 h).1
theorem LrB.cell {w : World} {g : Nat} {r : LS} (h : LrB w g r) (j : Nat) : w.cell? ⟨g, j, none⟩ = (LrC r)[j]? := by
  unfold LrB at h
  simp only [World.cell?, h]
  rfl
theorem LrB.fz {w : World} {g : Nat} {r : LS} (h : LrB w g r) (j : Nat) : w.frozen? ⟨g, j, none⟩ = false := by
  unfold LrB at h
  simp [World.frozen?, h]
theorem LrB.keep {w w' : World} {g : Nat} {r : LS} (h : LrB w g r) (hk : w'.heap[g]? = w.heap[g]?) : LrB w' g r := hk.trans h
theorem LrB.below {w w' : World} {g : Nat} {r : LS} (h : LrB w g r) (hb : Below w.heap.size w w') : LrB w' g r := h.keep (hb.block g h.lt)
theorem modify_at {w : World} {g : Nat} {cs : Array Value} {T : TypeId} (h : w.heap[g]? = some (.cells cs T (0, 0))) (j : Nat) (v : Value) : (w.setCell ⟨g, j, none⟩ v).heap[g]? = some (.cells (cs.setIfInBounds j v) T (0, 0)) := by
  show (w.heap.modify g _)[g]? = _
  rw [Array.getElem?_modify, h]
  simp
theorem LrB.claim {w : World} {g c : Nat} (h : LrB w g (c, none)) (n : Nat) : LrB (w.setCell ⟨g, 3, none⟩ (.int .i64 (n : Int))) g (n, none) := modify_at h 3 _
theorem LrB.wrong {w : World} {g c : Nat} (h : LrB w g (c, none)) (e : Int) (p : Nat) : LrB (((w.setCell ⟨g, 0, none⟩ (.int .i64 e)).setCell ⟨g, 1, none⟩ (.int .i64 (p : Int))).setCell ⟨g, 2, none⟩ (.bool true)) g (c, some (e, p)) := modify_at (modify_at (modify_at h 0 _) 1 _) 2 _
theorem rwrong_any (g c p : Nat) (e : Int) (w : World) (h : LrB w g (c, none)) :
    Calls Tryd.prog 54 #[.pointer (some ⟨g, 0, none⟩), .int .i64 e, .int .i64 p] w fun r w' => r = .returned (.tuple #[]) ∧ LrB w' g (c, some (e, p)) ∧ w.grownBy w' (some g) := by
  have c0 : w.cell? ⟨g, 0, none⟩ = some (.int .i64 0) := h.cell 0
  have c1 : w.cell? ⟨g, 1, none⟩ = some (.int .i64 0) := h.cell 1
  have c2 : w.cell? ⟨g, 2, none⟩ = some (.bool false) := h.cell 2
  have f0 := h.fz 0
  have f1 := h.fz 1
  have f2 := h.fz 2
  have hs := hid (h.wrong e p)
  have hg := hid (grown_set (grown_set (grown_set (grown_refl w (some g)) (p := ⟨g, 0, none⟩) (.inr rfl) (.int .i64 e)) (p := ⟨g, 1, none⟩) (.inr rfl) (.int .i64 (p : Int))) (p := ⟨g, 2, none⟩) (.inr rfl) (.bool true))
  clear h
  go_enter Tryd.func54, Tryd.ntmps54
  go_wp2
  go_returns
  exact ⟨rfl, hs.out, hg.out⟩

theorem rclaim_any (g c L cap to n p : Nat) (a : Option Addr) (w : World) (h : LrB w g (c, none)) (hc : c ≤ 1000000) (hn : n ≤ 1000000) (ht : to ≤ 1000000000000) (hL : L ≤ 1000000) (hL0 : 0 < L) :
    Calls Tryd.prog 55 #[.pointer (some ⟨g, 0, none⟩), .slice a L cap, .int .i64 to, .int .i64 n, .int .i64 p] w fun r w' => r = .returned (.tuple #[]) ∧ LrB w' g (clV L c to n p) ∧ w.grownBy w' (some g) := by
  have c3 : w.cell? ⟨g, 3, none⟩ = some (.int .i64 (c : Int)) := h.cell 3
  have f3 := h.fz 3
  have hs := h.claim (c + n)
  have hg := grown_set (grown_refl w (some g)) (p := ⟨g, 3, none⟩) (.inr rfl) (.int .i64 ((c + n : Nat) : Int))
  have c3' := World.cell?_setCell_same w ⟨g, 3, none⟩ (.int .i64 ((c + n : Nat) : Int)) c3
  rw [Int.natCast_add] at hs hg c3'
  have hcn : IntKind.i64.wrap ((c : Int) + (n : Int)) = (c : Int) + (n : Int) := IntWalk.i64_in _ (by omega)
  have hw := hid fun (e : Int) => rwrong_any g (c + n) p e _ hs
  have Hs := hid hs
  have Hg := hid hg
  clear hs hg h
  unfold clV
  by_cases h1 : L < to + n
  · have h1' : (L : Int) < (to : Int) + (n : Int) := by omega
    rw [if_pos h1]
    go_enter Tryd.func55, Tryd.ntmps55
    go_wp2_with fail
    ((refine (hw.out 23).mono ?_); rintro r w1 ⟨rfl, k1, k2⟩)
    go_wp2_with fail
    go_returns
    exact ⟨rfl, k1, grown_trans Hg.out k2⟩
  · have h1' : (to : Int) + (n : Int) ≤ (L : Int) := by omega
    rw [if_neg h1]
    by_cases h2 : L ≤ c + n
    · have h2' : (L : Int) - 1 < (c : Int) + (n : Int) := by omega
      rw [if_pos h2]
      clear h1 h2
      go_enter Tryd.func55, Tryd.ntmps55
      go_wp2_with fail
      ((refine (hw.out 16).mono ?_); rintro r w1 ⟨rfl, k1, k2⟩)
      go_wp2_with fail
      go_returns
      exact ⟨rfl, k1, grown_trans Hg.out k2⟩
    · have h2' : (c : Int) + (n : Int) ≤ (L : Int) - 1 := by omega
      rw [if_neg h2]
      clear h1 h2
      go_enter Tryd.func55, Tryd.ntmps55
      go_wp2_with fail
      go_returns
      exact ⟨rfl, Hs.out, Hg.out⟩
end SRLook

end Go.Proofs.YtblbhlgihlgncaaDoor


/- BuildSizes: a message has as many words as is told of its struct; its first word says so, and its type. -/
import Derived.Test.YtblbhlgihlgncaaDoorAw7
import Derived.Test.YtblbhlgihlgncaaDoorMadeB2
set_option linter.unusedVariables false
set_option linter.unusedSimpArgs false
namespace Go.Proofs.YtblbhlgihlgncaaDoor
section SLBSizes
open Go.RowKit

theorem words_first {w : World} {a : Option Addr} {n c : Nat} {ws : List (BitVec 64)} {x : BitVec 64} (h : Row w 1 (.slice a n c) ws.length (ws.map U)) (hx : ws[0]? = some x) : ∃ b off, a = some ⟨b, off, none⟩ ∧ b < w.heap.size ∧ w.cell? ⟨b, off, none⟩ = some (U x) := by
  have hlt := (List.getElem?_eq_some_iff.1 hx).1
  obtain ⟨b, off, cap, e, h2, h3, h4, h5⟩ := h.cons (by omega)
  simp only [Value.slice.injEq] at e
  refine ⟨b, off, e.1, h4, ?_⟩
  have := h5 0 (by omega)
  rw [Nat.add_zero, List.getElem?_map, hx] at this
  exact this

theorem row_lenS {w : World} {v : Value} {n : Nat} {l : List Int} (h : Row w 1 v n (l.map (Value.int .i64))) : Row w 1 v l.length (l.map (Value.int .i64)) := by
  have : l.length = n := by have := h.len; simpa using this
  rw [this]; exact h
end SLBSizes

end Go.Proofs.YtblbhlgihlgncaaDoor


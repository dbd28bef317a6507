/- Of a schema: a type's fields; a field. No program in sight. -/
import Derived.Test.YtmcpanjpjnlleaaDoorSch
set_option linter.unusedVariables false
namespace Go.Proofs.YtmcpanjpjnlleaaDoor
open Go.RowKit

theorem via {w w1 w2 : World} (h : Below w.heap.size w w1) (k : Below w1.heap.size w1 w2) : Below w.heap.size w w2 := h.trans (k.mono h.size)
theorem below_alloc (w : World) (o : Obj) : Below w.heap.size w (w.alloc o) := (Below.refl _ w).alloc (Nat.le_refl _) o
theorem Sch.alloc {w : World} {v : Value} {s : Schema} (h : Sch w v s) (o : Obj) : Sch (w.alloc o) v s := h.below (below_alloc w o) (Nat.le_refl _)
theorem Flds.alloc {w : World} {v : Value} {s : Fields} (h : Flds w v s) (o : Obj) : Flds (w.alloc o) v s := h.below (below_alloc w o) (Nat.le_refl _)


/-- A type's fields; none, if there is no such type. -/
def typeL (s : Schema) (t : Int) : Fields := if 0 ≤ t ∧ t < s.length then s.getD t.toNat [] else []
/-- A field; the zero one, if there is none. -/
def fieldP (s : Schema) (t i : Int) : Int × Int := if 0 ≤ i ∧ i < (typeL s t).length then (typeL s t).getD i.toNat (0, 0) else (0, 0)

theorem typeL_at {s : Schema} {k : Nat} {l : Fields} (h : s[k]? = some l) : typeL s k = l := by
  have hlt := (List.getElem?_eq_some_iff.1 h).1
  rw [typeL, if_pos (by omega), Int.toNat_natCast, List.getD_eq_getElem?_getD, h]; rfl
theorem typeL_out {s : Schema} {t : Int} (h : ¬ (0 ≤ t ∧ t < s.length)) : typeL s t = [] := by rw [typeL, if_neg h]
theorem fieldP_at {s : Schema} {t : Int} {i : Nat} {p : Int × Int} (h : (typeL s t)[i]? = some p) : fieldP s t i = p := by
  have hlt := (List.getElem?_eq_some_iff.1 h).1
  rw [fieldP, if_pos (by omega), Int.toNat_natCast, List.getD_eq_getElem?_getD, h]; rfl
theorem fieldP_out {s : Schema} {t i : Int} (h : ¬ (0 ≤ i ∧ i < (typeL s t).length)) : fieldP s t i = (0, 0) := by rw [fieldP, if_neg h]

end Go.Proofs.YtmcpanjpjnlleaaDoor


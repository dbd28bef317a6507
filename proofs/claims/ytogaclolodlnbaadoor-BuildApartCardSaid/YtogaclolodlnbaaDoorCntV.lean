/- How often the words of a message are counted. -/
import Derived.Test.YtogaclolodlnbaaDoorGj
import Derived.Test.YtogaclolodlnbaaDoorGl
import Derived.Test.YtogaclolodlnbaaDoorAw7
set_option linter.unusedVariables false
set_option linter.unusedSimpArgs false
namespace Go.Proofs.YtogaclolodlnbaaDoor
section SCntV
open Go.RowKit

/-- Some numbers are one more. -/
def addV (p n : Nat) (A : Nat → Int) : Nat → Int := fun q => if p ≤ q ∧ q < p + n then wrap64 (A q + 1) else A q
theorem addV_zero (p : Nat) (A : Nat → Int) : addV p 0 A = A := by
  funext q
  unfold addV
  rw [if_neg (by omega)]
theorem addV_app (p n m : Nat) (A : Nat → Int) : addV (p + n) m (addV p n A) = addV p (n + m) A := by
  funext q
  unfold addV
  by_cases h1 : p ≤ q ∧ q < p + n
  · rw [if_neg (by omega), if_pos h1, if_pos (by omega)]
  · by_cases h2 : p + n ≤ q ∧ q < p + n + m
    · rw [if_pos h2, if_neg h1, if_pos (by omega)]
    · rw [if_neg h2, if_neg h1, if_neg (by omega)]
theorem addV_comm (p n q m : Nat) (A : Nat → Int) : addV p n (addV q m A) = addV q m (addV p n A) := by
  funext j
  unfold addV
  by_cases h1 : p ≤ j ∧ j < p + n
  · by_cases h2 : q ≤ j ∧ j < q + m
    · simp only [if_pos h1, if_pos h2]
    · simp only [if_pos h1, if_neg h2]
  · by_cases h2 : q ≤ j ∧ j < q + m
    · simp only [if_neg h1, if_pos h2]
    · simp only [if_neg h1, if_neg h2]
def cntL (L : Nat) (A : Nat → Int) : List Value := (List.range L).map fun q => .int .i64 (A q)
theorem cntL_get {L : Nat} {A : Nat → Int} {q : Nat} (h : q < L) : (cntL L A)[q]? = some (.int .i64 (A q)) := by
  unfold cntL
  rw [List.getElem?_map, List.getElem?_range h]
  rfl
theorem cntL_len (L : Nat) (A : Nat → Int) : (cntL L A).length = L := by simp [cntL]
theorem cntL_set {L : Nat} {A : Nat → Int} {o : Nat} (h : o < L) : (cntL L A).set o (.int .i64 (wrap64 (A o + 1))) = cntL L (addV o 1 A) := by
  apply List.ext_getElem?
  intro q
  by_cases hq : q < L
  · rw [cntL_get hq, List.getElem?_set]
    by_cases hqo : o = q
    · subst hqo
      rw [if_pos rfl, if_pos (by rw [cntL_len]; exact hq)]
      unfold addV
      rw [if_pos (by omega)]
    · rw [if_neg hqo, cntL_get hq]
      unfold addV
      rw [if_neg (by omega)]
  · rw [List.getElem?_eq_none (by rw [List.length_set, cntL_len]; omega), List.getElem?_eq_none (by rw [cntL_len]; omega)]

/-- The count has gone on from w0 to w. -/
structure CntS (w0 w : World) (base g L c : Nat) (A : Nat → Int) : Prop where
  own : w.ownsRow base 3 1 (.slice (some ⟨g, 0, none⟩) L c) L (cntL L A)
  below : Below base w0 w
  keep : ∀ b, b < w0.heap.size → b ≠ g → w.heap[b]? = w0.heap[b]?
theorem CntS.refl {w : World} {base g L c : Nat} {A : Nat → Int} (h : w.ownsRow base 3 1 (.slice (some ⟨g, 0, none⟩) L c) L (cntL L A)) : CntS w w base g L c A := ⟨h, Below.refl _ _, fun _ _ _ => rfl⟩
theorem CntS.trans {w0 w1 w2 : World} {base g L c : Nat} {A B : Nat → Int} (h : CntS w0 w1 base g L c A) (k : CntS w1 w2 base g L c B) : CntS w0 w2 base g L c B :=
  ⟨k.own, h.below.trans k.below, fun b h1 h3 => (k.keep b (Nat.lt_of_lt_of_le h1 h.below.size) h3).trans (h.keep b h1 h3)⟩
theorem CntS.later {w0 w w' : World} {base g L c : Nat} {A : Nat → Int} (h : CntS w0 w base g L c A) (hB : base ≤ w.heap.size) (hb : Below w.heap.size w w') : CntS w0 w' base g L c A :=
  ⟨own_beneath h.own hb, h.below.trans (hb.mono hB), fun b h1 h3 => (hb.block b (Nat.lt_of_lt_of_le h1 h.below.size)).trans (h.keep b h1 h3)⟩
theorem CntS.before {w0 w1 w : World} {base g L c : Nat} {A : Nat → Int} (hb : Below w0.heap.size w0 w1) (hB : base ≤ w0.heap.size) (h : CntS w1 w base g L c A) : CntS w0 w base g L c A :=
  ⟨h.own, (hb.mono hB).trans h.below, fun b h1 h3 => (h.keep b (Nat.lt_of_lt_of_le h1 hb.size) h3).trans (hb.block b h1)⟩
theorem CntS.lt {w0 w : World} {base g L c : Nat} {A : Nat → Int} (h : CntS w0 w base g L c A) : g < w.heap.size ∧ base ≤ g := ⟨(own_blk h.own (g := g) rfl).1.lt, (own_blk h.own (g := g) rfl).2⟩
theorem CntS.word {w0 w : World} {base g L c : Nat} {A : Nat → Int} (h : CntS w0 w base g L c A) {o : Nat} (ho : o < L) :
    w.cell? ⟨g, o, none⟩ = some (.int .i64 (A o)) ∧ w.frozen? ⟨g, o, none⟩ = false ∧ CntS w0 (w.setCell ⟨g, o, none⟩ (.int .i64 (wrap64 (A o + 1)))) base g L c (addV o 1 A) := by
  have hg := h.lt
  have hc := h.own.cellAt o (by omega)
  rw [cntL_get ho] at hc
  refine ⟨hc, h.own.frozenAt o, ⟨?_, h.below.setCell (p := ⟨g, o, none⟩) hg.2 _, fun b h1 h3 => ?_⟩⟩
  · have := own_setN h.own o (.int .i64 (wrap64 (A o + 1)))
    rw [cntL_set ho] at this
    exact this
  · rw [Below.heap_setCell _ _ _ _ h3]
    exact h.keep b h1 h3

/-- The fields, one more. -/
theorem cnt_field (p lo i S f : Nat) (A : Nat → Int) : addV (lo + S) f (addV (p + i) 1 (addV lo S (addV p i A))) = addV lo (S + f) (addV p (i + 1) A) := by
  rw [addV_comm (p + i) 1 lo S, addV_app, addV_app]
/-- The structs of a field, one more. -/
theorem cnt_kid (lo nf M j S b : Nat) (A : Nat → Int) : addV (lo + nf * M + S) b (addV (lo + nf * j) nf (addV (lo + nf * M) S (addV lo (nf * j) A))) = addV (lo + nf * M) (S + b) (addV lo (nf * (j + 1)) A) := by
  rw [addV_comm (lo + nf * j) nf (lo + nf * M) S, addV_app, addV_app, Nat.mul_succ]
/-- The words of one reference. -/
theorem lo_ref_at {a o n : Nat} (ho : o ≤ 1000) (hn : n ≤ 1000) : loV (refV (((a + o : Nat) : Int) - (a : Nat)) (n : Int)) = (o : Int) ∧ hiV (refV (((a + o : Nat) : Int) - (a : Nat)) (n : Int)) = (n : Int) := by
  rw [lo_ref, hi_ref]
  constructor <;> omega
theorem ref_ne {a : Int} {n : Nat} (h0 : n ≠ 0) (hn : n ≤ 1000) : refV a (n : Int) ≠ 0#64 := by
  intro e
  have h := hi_ref a (n : Int)
  rw [e] at h
  have : hiV 0#64 = 0 := rfl
  omega
end SCntV

end Go.Proofs.YtogaclolodlnbaaDoor


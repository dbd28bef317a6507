/- Schemas as they lie in memory: a row of rows of fields, each a kind and a type. -/
import Derived.Test.YtmcpanjpjnlleaaDoorBase
set_option linter.unusedVariables false
namespace Go.Proofs.YtmcpanjpjnlleaaDoor
open Go.RowKit

abbrev Fields := List (Int × Int)
abbrev Schema := List Fields

def fldC (p : Int × Int) : List Value := [.int .i64 p.1, .int .i64 p.2]
def fldsC : Fields → List Value
  | [] => []
  | p :: l => .int .i64 p.1 :: .int .i64 p.2 :: fldsC l

theorem fldsC_length (l : Fields) : (fldsC l).length = l.length * 2 := by
  induction l with
  | nil => rfl
  | cons p l ih => simp [fldsC, ih]; omega

theorem fldsC_get : ∀ (l : Fields) (i : Nat) (p : Int × Int), l[i]? = some p → (fldsC l)[i * 2]? = some (.int .i64 p.1) ∧ (fldsC l)[i * 2 + 1]? = some (.int .i64 p.2)
  | [], i, p, h => by simp at h
  | q :: l, 0, p, h => by
    simp at h; subst h; exact ⟨rfl, rfl⟩
  | q :: l, i + 1, p, h => by
    have := fldsC_get l i p (by simpa using h)
    rw [show (i + 1) * 2 = i * 2 + 1 + 1 by omega]
    simpa [fldsC] using this

theorem fldsC_append (l m : Fields) : fldsC (l ++ m) = fldsC l ++ fldsC m := by
  induction l with
  | nil => rfl
  | cons p l ih => simp [fldsC, ih]

/-- The slice value v is the row of fields l. -/
def Flds (w : World) (v : Value) (l : Fields) : Prop := Row w 2 v l.length (fldsC l)

theorem Flds.below {w w' : World} {B : Nat} {v : Value} {l : Fields} (h : Flds w v l) (hb : Below B w w') (hB : w.heap.size ≤ B) : Flds w' v l := Row.below h hb hB

theorem Flds.shape {w : World} {v : Value} {l : Fields} (h : Flds w v l) : ∃ a cap, v = .slice a l.length cap ∧ l.length ≤ cap ∧ cap ≤ maxLen := by
  obtain ⟨a, cap, h1, h2, h3, _⟩ := Row.open h
  exact ⟨a, cap, h1, h2, h3⟩

theorem Flds.at_ {w : World} {a : Option Addr} {n cap : Nat} {l : Fields} {i : Nat} {p : Int × Int} (h : Flds w (.slice a n cap) l) (hi : l[i]? = some p) :
    ∃ b off, a = some ⟨b, off, none⟩ ∧ b < w.heap.size ∧ w.cell? ⟨b, off + i * 2, none⟩ = some (.int .i64 p.1) ∧ w.cell? ⟨b, off + i * 2 + 1, none⟩ = some (.int .i64 p.2) := by
  have hlt : i < l.length := (List.getElem?_eq_some_iff.1 hi).1
  obtain ⟨b, off, cap', e, h1, h2, h3, hc⟩ := Row.cons h (by omega)
  obtain ⟨g1, g2⟩ := fldsC_get l i p hi
  simp only [Value.slice.injEq] at e
  exact ⟨b, off, e.1, h3, by rw [hc (i * 2) (by omega)]; exact g1, by rw [Nat.add_assoc, hc (i * 2 + 1) (by omega)]; exact g2⟩

/-- The slice value v is the schema s. -/
structure Sch (w : World) (v : Value) (s : Schema) : Prop where
  ex : ∃ vs : List Value, Row w 1 v s.length vs ∧ ∀ (i : Nat) (l : Fields), s[i]? = some l → ∃ u, vs[i]? = some u ∧ Flds w u l

theorem Sch.below {w w' : World} {B : Nat} {v : Value} {s : Schema} (h : Sch w v s) (hb : Below B w w') (hB : w.heap.size ≤ B) : Sch w' v s := by
  obtain ⟨vs, h1, h2⟩ := h.ex
  exact ⟨vs, h1.below hb hB, fun i l hl => by
    obtain ⟨u, h3, h4⟩ := h2 i l hl
    exact ⟨u, h3, h4.below hb hB⟩⟩

theorem Sch.drewN {w : World} {k : Nat} {v : Value} {s : Schema} (h : Sch w v s) : Sch (w.drewN k) v s := h.below (B := w.heap.size) ⟨rfl, rfl, rfl, Nat.le_refl _, fun _ _ => rfl⟩ (Nat.le_refl _)

theorem Sch.shape {w : World} {v : Value} {s : Schema} (h : Sch w v s) : ∃ a cap, v = .slice a s.length cap ∧ s.length ≤ cap ∧ cap ≤ maxLen ∧ s.length ≤ maxLen := by
  obtain ⟨vs, h1, _⟩ := h.ex
  obtain ⟨a, cap, h2, h3, h4, _⟩ := h1.open
  exact ⟨a, cap, h2, h3, h4, h1.most⟩

theorem Sch.at_ {w : World} {a : Option Addr} {n cap : Nat} {s : Schema} {i : Nat} {l : Fields} (h : Sch w (.slice a n cap) s) (hi : s[i]? = some l) :
    ∃ b off a2 cap2, a = some ⟨b, off, none⟩ ∧ b < w.heap.size ∧ w.cell? ⟨b, off + i, none⟩ = some (.slice a2 l.length cap2) ∧ Flds w (.slice a2 l.length cap2) l ∧ l.length ≤ maxLen ∧ l.length ≤ cap2 ∧ cap2 ≤ maxLen := by
  obtain ⟨vs, h1, h2⟩ := h.ex
  have hlt : i < s.length := (List.getElem?_eq_some_iff.1 hi).1
  obtain ⟨b, off, cap', e, h5, h6, h3, hc⟩ := h1.cons (by omega)
  obtain ⟨u, hu, hf⟩ := h2 i l hi
  obtain ⟨a2, cap2, rfl, g1, g2⟩ := hf.shape
  simp only [Value.slice.injEq] at e
  exact ⟨b, off, a2, cap2, e.1, h3, by rw [hc i (by omega)]; exact hu, hf, Row.most hf, g1, g2⟩

theorem Sch.nil (w : World) : Sch w (.slice none 0 0) [] := ⟨[], Row.nil w 1, fun i l h => by simp at h⟩

/-! ### What is right -/
def fOk (n : Nat) (p : Int × Int) : Bool := decide (1 ≤ p.1 ∧ p.1 ≤ 5 ∧ 0 ≤ p.2 ∧ p.2 < n ∧ (p.1 < 4 → p.2 = 0))
def lOk (n : Nat) (l : Fields) : Bool := decide (1 ≤ l.length ∧ l.length ≤ 6) && l.all (fOk n)
def rightB (s : Schema) : Bool := decide (1 ≤ s.length ∧ s.length ≤ 8) && s.all (lOk s.length)

theorem all_take_succ {α : Type} (l : List α) (f : α → Bool) (i : Nat) (p : α) (h : l[i]? = some p) : (l.take (i + 1)).all f = ((l.take i).all f && f p) := by
  rw [List.take_add_one, h]; simp
theorem all_of_take {α : Type} (l : List α) (f : α → Bool) (i : Nat) (h : l.length ≤ i) : (l.take i).all f = l.all f := by rw [List.take_of_length_le h]
theorem all_false_of {α : Type} (l : List α) (f : α → Bool) (i : Nat) (p : α) (h : l[i]? = some p) (hp : f p = false) : l.all f = false := by
  rw [List.all_eq_false]
  exact ⟨p, List.mem_of_getElem? h, by simp [hp]⟩
theorem all_take_false {α : Type} (l : List α) (f : α → Bool) (i : Nat) (h : (l.take i).all f = false) : l.all f = false := by
  rw [List.all_eq_false] at *
  obtain ⟨x, hx, hf⟩ := h
  exact ⟨x, List.mem_of_mem_take hx, hf⟩
theorem get_lt {α : Type} {l : List α} {i : Nat} (h : i < l.length) : ∃ p, l[i]? = some p := ⟨_, List.getElem?_eq_getElem h⟩
end Go.Proofs.YtmcpanjpjnlleaaDoor


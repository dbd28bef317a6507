/- How deep a schema's types are, in plain words. No program in sight. -/
import Derived.Test.YtbhnbjaafejcjaaDoorSch
import Derived.Test.YtbhnbjaafejcjaaDoorSchV
set_option linter.unusedVariables false
namespace Go.Proofs.YtbhnbjaafejcjaaDoor
open Go.RowKit

/-- One field of a struct that may be 'left' deep: the most so far. -/
def deepStep (f : Int → Nat) (left : Nat) (n : Nat) (p : Int × Int) : Nat := if 4 ≤ p.1 ∧ 1 < left ∧ n < left - 1 then max n (f p.2) else n
/-- The program's: as deep as left. -/
def deepL (s : Schema) : Nat → Int → Nat
  | 0, t => (typeL s t).foldl (deepStep (fun _ => 0) 0) 0 + 1
  | left + 1, t => (typeL s t).foldl (deepStep (deepL s left) (left + 1)) 0 + 1
/-- The document's: by rounds. -/
def deepR (s : Schema) : Nat → Int → Nat
  | 0, _ => 0
  | r + 1, t => (typeL s t).foldl (fun n p => if 4 ≤ p.1 then max n (deepR s r p.2) else n) 0 + 1
def deepV (s : Schema) (t : Int) : Nat := if rightB s ∧ 0 ≤ t ∧ t < s.length then deepL s 6 t else 0

theorem foldl_le {f : Nat → Int × Int → Nat} {b : Nat} (hf : ∀ n p, n ≤ b → f n p ≤ b) : ∀ (l : Fields) (n : Nat), n ≤ b → l.foldl f n ≤ b
  | [], _, h => h
  | p :: l, n, h => foldl_le hf l _ (hf n p h)
theorem deepR_le (s : Schema) : ∀ r t, deepR s r t ≤ r
  | 0, _ => Nat.le_refl _
  | r + 1, t => by
    have := foldl_le (f := fun n p => if 4 ≤ p.1 then max n (deepR s r p.2) else n) (b := r) (fun n p h => by
      show (if 4 ≤ p.1 then max n (deepR s r p.2) else n) ≤ r
      split
      · exact Nat.max_le.2 ⟨h, deepR_le s r _⟩
      · exact h) (typeL s t) 0 (Nat.zero_le _)
    rw [deepR]; omega
theorem deepL_one (s : Schema) (t : Int) : deepL s 1 t = 1 := by
  have : ∀ (l : Fields), l.foldl (deepStep (deepL s 0) 1) 0 = 0 := by
    intro l
    induction l with
    | nil => rfl
    | cons p l ih => rw [List.foldl_cons, show deepStep (deepL s 0) 1 0 p = 0 by simp [deepStep], ih]
  rw [deepL, this]
theorem foldl_zero (f : Int → Nat) (hf : ∀ t, f t = 0) : ∀ (l : Fields), l.foldl (fun n p => if 4 ≤ p.1 then max n (f p.2) else n) 0 = 0 := by
  intro l
  induction l with
  | nil => rfl
  | cons p l ih => rw [List.foldl_cons, hf, show (if 4 ≤ p.1 then max 0 0 else 0) = 0 by split <;> rfl, ih]
theorem deepL_eq (s : Schema) : ∀ r t, deepL s (r + 1) t = deepR s (r + 1) t
  | 0, t => by rw [deepL_one, deepR, foldl_zero (deepR s 0) (fun _ => rfl)]
  | r + 1, t => by
    rw [deepL, deepR]
    congr 1
    have key : ∀ (l : Fields) (n : Nat), n ≤ r + 1 → l.foldl (deepStep (deepL s (r + 1)) (r + 1 + 1)) n = l.foldl (fun n p => if 4 ≤ p.1 then max n (deepR s (r + 1) p.2) else n) n := by
      intro l
      induction l with
      | nil => intro n _; rfl
      | cons p l ih =>
        intro n hn
        have hd := deepR_le s (r + 1) p.2
        have e : deepStep (deepL s (r + 1)) (r + 1 + 1) n p = if 4 ≤ p.1 then max n (deepR s (r + 1) p.2) else n := by
          unfold deepStep
          rw [deepL_eq s r]
          by_cases h4 : 4 ≤ p.1
          · by_cases h5 : n < r + 1
            · rw [if_pos ⟨h4, by omega, by omega⟩, if_pos h4]
            · rw [if_neg (by omega), if_pos h4]; omega
          · rw [if_neg (by omega), if_neg h4]
        rw [List.foldl_cons, List.foldl_cons, e]
        refine ih _ ?_
        split <;> omega
    exact key _ 0 (Nat.zero_le _)
theorem deepL_pos (s : Schema) (r : Nat) (t : Int) : 1 ≤ deepL s r t := by cases r <;> simp [deepL]
theorem deepL_le (s : Schema) (r : Nat) (t : Int) : deepL s (r + 1) t ≤ r + 1 := by rw [deepL_eq]; exact deepR_le _ _ _
end Go.Proofs.YtbhnbjaafejcjaaDoor


/- What the functions over trees come to, in plain words. No program in sight. -/
import Derived.Test.YtmcpanjpjnlleaaDoorTr
import Derived.Test.YtmcpanjpjnlleaaDoorSchV
set_option linter.unusedVariables false
namespace Go.Proofs.YtmcpanjpjnlleaaDoor
open Go.RowKit

def hasV (kind : Int) (x : BitVec 64) (nb nn nk : Nat) : Bool :=
  if kind = 1 then decide (nb = 0 ∧ nn = 0 ∧ nk = 0)
  else if kind = 2 then x == 0#64 && decide (nn = 0 ∧ nk = 0 ∧ nb ≤ 40)
  else if kind = 3 then x == 0#64 && decide (nb = 0 ∧ nk = 0 ∧ nn ≤ 12)
  else if kind = 4 then x == 0#64 && decide (nb = 0 ∧ nn = 0 ∧ nk ≤ 1)
  else if kind = 5 then x == 0#64 && decide (nb = 0 ∧ nn = 0 ∧ nk ≤ 12)
  else false
def hasB {K : Type} (kind : Int) (v : Node K) : Bool := hasV kind v.num v.bytes.size v.nums.length v.kids.length

/-- The first code that is not 0. -/
def firstE {α : Type} (f : Nat → α → Int) : Nat → List α → Int
  | _, [] => 0
  | i, x :: l => if f i x = 0 then firstE f (i + 1) l else f i x

theorem firstE_append {α : Type} (f : Nat → α → Int) : ∀ (l m : List α) (i : Nat), firstE f i (l ++ m) = if firstE f i l = 0 then firstE f (i + l.length) m else firstE f i l
  | [], m, i => by simp [firstE]
  | x :: l, m, i => by
    simp only [List.cons_append, firstE, List.length_cons]
    by_cases h : f i x = 0
    · simp only [h, if_true]
      rw [firstE_append f l m (i + 1), show i + 1 + l.length = i + (l.length + 1) by omega]
    · simp only [h, if_false]
theorem firstE_succ {α : Type} (f : Nat → α → Int) (l : List α) (i : Nat) (x : α) (h : l[i]? = some x) (h0 : firstE f 0 (l.take i) = 0) : firstE f 0 (l.take (i + 1)) = f i x := by
  have hi : i < l.length := (List.getElem?_eq_some_iff.1 h).1
  rw [List.take_add_one, h, firstE_append, if_pos h0]
  simp only [Option.toList_some, firstE, List.length_take, Nat.zero_add, Nat.min_eq_left (Nat.le_of_lt hi)]
  split
  · next h1 => exact h1.symm
  · rfl
theorem firstE_hit {α : Type} (f : Nat → α → Int) (l : List α) (i : Nat) (x : α) (h : l[i]? = some x) (h0 : firstE f 0 (l.take i) = 0) (hx : f i x ≠ 0) : firstE f 0 l = f i x := by
  have hi : i < l.length := (List.getElem?_eq_some_iff.1 h).1
  have e : l = l.take i ++ x :: l.drop (i + 1) := by
    rw [← List.take_append_drop i l]
    congr 1
    · simp
    · rw [List.take_append_drop, List.drop_eq_getElem_cons hi]
      congr 1
      exact Option.some.inj ((List.getElem?_eq_getElem hi).symm.trans h)
  rw [e, firstE_append, if_pos h0]
  simp only [firstE, List.length_take, Nat.zero_add, Nat.min_eq_left (Nat.le_of_lt hi), if_neg hx]
theorem firstE_all {α : Type} (f : Nat → α → Int) (l : List α) (i : Nat) (h : l.length ≤ i) : firstE f 0 (l.take i) = firstE f 0 l := by rw [List.take_of_length_le h]

/-- What Check finds of a struct: 0, 24 or 16. -/
def codeT (s : Schema) : (d left : Nat) → Int → St d → Int
  | 0, _, _, v => nomatch v
  | d + 1, left, t, v =>
    if left = 0 then 16
    else if ¬ v.num = 0#64 ∨ ¬ v.bytes.size = 0 ∨ ¬ v.nums.length = 0 ∨ ¬ v.kids.length = (typeL s t).length then 24
    else firstE (fun i k => if hasB (fieldP s t i).1 k then firstE (fun _ x => codeT s d (left - 1) (fieldP s t i).2 x) 0 k.kids else 24) 0 v.kids

def checkC (s : Schema) (d : Nat) (t : Int) (v : St d) : Int := if rightB s ∧ 0 ≤ t ∧ t < s.length then codeT s d 5 t v else 1

def maxL {α : Type} (f : α → Nat) (l : List α) : Nat := l.foldl (fun m x => max m (f x)) 0
def sumL {α : Type} (f : α → Nat) (l : List α) : Nat := l.foldl (fun m x => m + f x) 0
theorem maxL_succ {α : Type} (f : α → Nat) (l : List α) (i : Nat) (x : α) (h : l[i]? = some x) : maxL f (l.take (i + 1)) = max (maxL f (l.take i)) (f x) := by
  rw [List.take_add_one, h]; simp [maxL]
theorem sumL_succ {α : Type} (f : α → Nat) (l : List α) (i : Nat) (x : α) (h : l[i]? = some x) : sumL f (l.take (i + 1)) = sumL f (l.take i) + f x := by
  rw [List.take_add_one, h]; simp [sumL]

def deepT : (d : Nat) → St d → Nat
  | 0, v => nomatch v
  | d + 1, v => 1 + maxL (fun k : Node (St d) => maxL (deepT d) k.kids) v.kids
def wordsT : (d : Nat) → St d → Nat
  | 0, v => nomatch v
  | d + 1, v => v.kids.length + sumL (fun k : Node (St d) => (k.bytes.size + 7) / 8 + k.nums.length + sumL (wordsT d) k.kids) v.kids
end Go.Proofs.YtmcpanjpjnlleaaDoor


/- What looking at words comes to, in plain words. No program in sight. -/
import Derived.Test.YtblbhlgihlgncaaDoorGa
set_option linter.unusedVariables false
set_option linter.unusedSimpArgs false
namespace Go.Proofs.YtblbhlgihlgncaaDoor
section SValV
open Go.RowKit

/-- How many words were claimed; and the trouble: its code, and at which word. -/
abbrev LS := Nat × Option (Int × Nat)
/-- Words are claimed. -/
def clV (L c to n p : Nat) : LS := (c + n, if L < to + n then some (23, p) else if L ≤ c + n then some (16, p) else none)
/-- Step after step, till a trouble. -/
def runN (f : Nat → Nat → LS) : Nat → Nat → LS
  | 0, c => (c, none)
  | k + 1, c => match runN f k c with
    | (c', none) => f k c'
    | (c', some e) => (c', some e)
def loN (x : BitVec 64) : Nat := x.toNat % 4294967296
def hiN (x : BitVec 64) : Nat := x.toNat / 4294967296
def mostN (kd : Int) : Nat := if kd = 2 then 40 else if kd = 4 then 1 else 12
/-- A reference, whose word lies at p: to n things, off words on. -/
def refN (s : Schema) (ws : List (BitVec 64)) (sub : Option (Int → Nat → Nat → LS)) (kd ty : Int) (p to n c : Nat) : LS :=
  if kd = 3 then clV ws.length c to n p
  else if kd = 2 then
    match clV ws.length c to ((n + 7) / 8) p with
    | (c', none) => (c', if textOk ((ws.drop to).take ((n + 7) / 8)) n then none else some (10, p))
    | (c', some e) => (c', some e)
  else match sub with
    | none => (c, some (16, p))
    | some g => match clV ws.length c to (n * (typeL s ty).length) p with
      | (c', none) => runN (fun j c => g ty (to + j * (typeL s ty).length) c) n c'
      | (c', some e) => (c', some e)
/-- A field's word. -/
def oneN (s : Schema) (ws : List (BitVec 64)) (sub : Option (Int → Nat → Nat → LS)) (fd : Int × Int) (p c : Nat) : LS :=
  if fd.1 = 1 ∨ ws.getD p 0#64 = 0#64 then (c, none)
  else if loN (ws.getD p 0#64) = 0 ∨ hiN (ws.getD p 0#64) = 0 ∨ mostN fd.1 < hiN (ws.getD p 0#64) then (c, some (10, p))
  else refN s ws sub fd.1 fd.2 p (p + loN (ws.getD p 0#64)) (hiN (ws.getD p 0#64)) c
def subN (s : Schema) (ws : List (BitVec 64)) : Nat → Option (Int → Nat → Nat → LS)
  | 0 => none
  | k + 1 => some fun t at' c => runN (fun i c => oneN s ws (subN s ws k) (fieldP s t i) (at' + i) c) (typeL s t).length c
/-- A struct, and all that it refers to; k: how deep it may go on. -/
def visN (s : Schema) (ws : List (BitVec 64)) (k : Nat) (t : Int) (at' c : Nat) : LS := runN (fun i c => oneN s ws (subN s ws k) (fieldP s t i) (at' + i) c) (typeL s t).length c
theorem subN_succ (s : Schema) (ws : List (BitVec 64)) (k : Nat) : subN s ws (k + 1) = some (visN s ws k) := rfl
/-- Some words, not none. -/
def runW (s : Schema) (ws : List (BitVec 64)) : LS :=
  if loN (ws.getD 0 0#64) ≠ ws.length ∨ s.length ≤ hiN (ws.getD 0 0#64) then (0, some (10, 0))
  else match clV ws.length 0 1 (typeL s (hiN (ws.getD 0 0#64) : Nat)).length 0 with
    | (c', none) => visN s ws 4 (hiN (ws.getD 0 0#64) : Nat) 1 c'
    | (c', some e) => (c', some e)
/-- Any words: the code; at which word, if at one; how many were claimed. -/
def allW (s : Schema) (ws : List (BitVec 64)) : Int × Option Nat × Nat :=
  if rightB s = false then (1, none, 0)
  else if ws.length = 0 ∨ 200 < ws.length then (21, none, 0)
  else match runW s ws with
    | (c, none) => (0, none, c)
    | (c, some (e, p)) => (e, some p, c)

theorem runN_ok {f : Nat → Nat → LS} {k c c' : Nat} (h : runN f k c = (c', none)) : runN f (k + 1) c = f k c' := by
  rw [runN, h]
theorem runN_bad {f : Nat → Nat → LS} {k c c' : Nat} {e : Int × Nat} (h : runN f k c = (c', some e)) (m : Nat) : runN f (k + m) c = (c', some e) := by
  induction m with
  | zero => exact h
  | succ m ih => rw [← Nat.add_assoc, runN, ih]
theorem runN_end {f : Nat → Nat → LS} {k n c c' c2 : Nat} {e : Int × Nat} (h : runN f k c = (c', none)) (hk : k < n) (h2 : f k c' = (c2, some e)) : runN f n c = (c2, some e) := by
  have h3 : runN f (k + 1) c = (c2, some e) := (runN_ok h).trans h2
  have := runN_bad h3 (n - (k + 1))
  rwa [show k + 1 + (n - (k + 1)) = n by omega] at this
theorem clV_none {L c to n p c' : Nat} (h : clV L c to n p = (c', none)) : c' = c + n ∧ to + n ≤ L ∧ c + n < L := by
  unfold clV at h
  injection h with h1 h2
  split at h2
  · cases h2
  · split at h2
    · cases h2
    · exact ⟨h1.symm, by omega, by omega⟩
theorem typeL_six {s : Schema} (hr : rightB s = true) (t : Int) : (typeL s t).length ≤ 6 := by
  unfold typeL
  split
  · next h =>
    have hl : t.toNat < s.length := by omega
    unfold rightB at hr
    simp only [Bool.and_eq_true, List.all_eq_true] at hr
    rw [List.getD_eq_getElem?_getD, List.getElem?_eq_getElem hl, Option.getD_some]
    have := hr.2 _ (List.getElem_mem hl)
    unfold lOk at this
    simp only [Bool.and_eq_true, decide_eq_true_eq] at this
    exact this.1.2
  · simp
/-- What was claimed is not much more than there is; the codes. -/
structure Bd (L : Nat) (r : LS) : Prop where
  most : r.1 ≤ L + 72
  ok : r.2 = none → r.1 < L
  code : ∀ e p, r.2 = some (e, p) → e = 10 ∨ e = 16 ∨ e = 23
theorem runN_bd {L : Nat} {f : Nat → Nat → LS} (h : ∀ i c, c < L → Bd L (f i c)) : ∀ n c, c < L → Bd L (runN f n c)
  | 0, c, hc => ⟨by simp only [runN]; omega, fun _ => hc, fun e p h => by cases h⟩
  | n + 1, c, hc => by
    have ih := runN_bd h n c hc
    rw [runN]
    split
    · next c' e => rw [e] at ih; exact h n c' (ih.ok rfl)
    · next c' e' e => rw [e] at ih; exact ih
theorem clV_bd {L c to n p : Nat} (hn : n ≤ 72) (hc : c < L) : Bd L (clV L c to n p) := by
  unfold clV
  refine ⟨by simp only; omega, fun h => ?_, fun e q h => ?_⟩
  · simp only at h ⊢
    split at h
    · cases h
    · split at h
      · cases h
      · omega
  · simp only at h
    split at h
    · injection h with h; injection h with h1 h2; exact .inr (.inr h1.symm)
    · split at h
      · injection h with h; injection h with h1 h2; exact .inr (.inl h1.symm)
      · cases h
theorem refN_bd {s : Schema} (hr : rightB s = true) {ws : List (BitVec 64)} {sub : Option (Int → Nat → Nat → LS)} (hs : ∀ g, sub = some g → ∀ t a c, c < ws.length → Bd ws.length (g t a c)) (kd ty : Int) (p to n c : Nat) (hn : n ≤ mostN kd) (hc : c < ws.length) :
    Bd ws.length (refN s ws sub kd ty p to n c) := by
  unfold mostN at hn
  unfold refN
  split
  · next h3 => exact clV_bd (by rw [if_neg (by omega), if_neg (by omega)] at hn; omega) hc
  · split
    · next h2 =>
      rw [if_pos h2] at hn
      have h := clV_bd (L := ws.length) (c := c) (to := to) (n := (n + 7) / 8) (p := p) (by omega) hc
      split
      · next c' e =>
        rw [e] at h
        refine ⟨h.most, fun _ => h.ok rfl, fun e q hq => ?_⟩
        simp only at hq
        split at hq
        · cases hq
        · injection hq with hq; injection hq with h1 _; exact .inl h1.symm
      · next c' e' e => rw [e] at h; exact h
    · next h2 =>
      rw [if_neg h2] at hn
      have h12 : n ≤ 12 := by split at hn <;> omega
      split
      · exact ⟨by simp only; omega, (fun h => by cases h), fun e q h => by injection h with h; injection h with h1 _; exact .inr (.inl h1.symm)⟩
      · next g =>
        have h6 := typeL_six hr ty
        have hm : n * (typeL s ty).length ≤ 12 * 6 := Nat.mul_le_mul h12 h6
        have h := clV_bd (L := ws.length) (c := c) (to := to) (n := n * (typeL s ty).length) (p := p) (by omega) hc
        split
        · next c' e =>
          rw [e] at h
          exact runN_bd (fun i c hc => hs g rfl _ _ c hc) _ _ (h.ok rfl)
        · next c' e' e => rw [e] at h; exact h
theorem oneN_bd {s : Schema} (hr : rightB s = true) {ws : List (BitVec 64)} {sub : Option (Int → Nat → Nat → LS)} (hs : ∀ g, sub = some g → ∀ t a c, c < ws.length → Bd ws.length (g t a c)) (fd : Int × Int) (p c : Nat) (hc : c < ws.length) :
    Bd ws.length (oneN s ws sub fd p c) := by
  unfold oneN
  split
  · exact ⟨by simp only; omega, fun _ => hc, fun e p h => by cases h⟩
  · split
    · exact ⟨by simp only; omega, (fun h => by cases h), fun e q h => by injection h with h; injection h with h1 _; exact .inl h1.symm⟩
    · next h => exact refN_bd hr hs _ _ _ _ _ _ (by omega) hc
theorem subN_bd {s : Schema} (hr : rightB s = true) {ws : List (BitVec 64)} : ∀ k g, subN s ws k = some g → ∀ t a c, c < ws.length → Bd ws.length (g t a c)
  | 0, g, h => by cases h
  | k + 1, g, h => by
    injection h with h
    subst h
    exact fun t a c hc => runN_bd (fun i c hc => oneN_bd hr (subN_bd hr k) _ _ c hc) _ _ hc
theorem visN_bd {s : Schema} (hr : rightB s = true) {ws : List (BitVec 64)} (k : Nat) (t : Int) (a c : Nat) (hc : c < ws.length) : Bd ws.length (visN s ws k t a c) := runN_bd (fun i c hc => oneN_bd hr (subN_bd hr k) _ _ c hc) _ _ hc
theorem runW_bd {s : Schema} (hr : rightB s = true) {ws : List (BitVec 64)} (h0 : 0 < ws.length) : Bd ws.length (runW s ws) := by
  unfold runW
  split
  · exact ⟨by simp, (fun h => by cases h), fun e q h => by injection h with h; injection h with h1 _; exact .inl h1.symm⟩
  · have h6 := typeL_six hr (hiN (ws.getD 0 0#64) : Nat)
    have h := clV_bd (L := ws.length) (c := 0) (to := 1) (n := (typeL s (hiN (ws.getD 0 0#64) : Nat)).length) (p := 0) (by omega) h0
    split
    · next c' e => rw [e] at h; exact visN_bd hr _ _ _ _ (h.ok rfl)
    · next c' e' e => rw [e] at h; exact h
/-- It ends, and claims no more than there are, and 240; what is right claims fewer than there are. -/
theorem allW_ends {s : Schema} (hr : rightB s = true) (ws : List (BitVec 64)) : (allW s ws).2.2 ≤ ws.length + 240 ∧ ((allW s ws).1 = 0 → (allW s ws).2.2 < ws.length) ∧ (allW s ws).1 ≠ 1 := by
  unfold allW
  rw [hr]
  simp only [Bool.true_eq_false, if_false]
  split
  · exact ⟨by simp, (fun h => by cases h), by decide⟩
  · next h =>
    have hb := runW_bd hr (ws := ws) (by omega)
    split
    · next c e => rw [e] at hb; exact ⟨by have := hb.most; simp only at this ⊢; omega, fun _ => hb.ok rfl, by simp⟩
    · next c e' p e =>
      rw [e] at hb
      have := hb.code e' p rfl
      exact ⟨by have := hb.most; simp only at this ⊢; omega, fun h => by simp only at h; omega, by simp only; omega⟩
theorem grown_refl (w : World) (row : Option Nat) : w.grownBy w row := ⟨rfl, rfl, rfl, Nat.le_refl _, fun _ _ _ => rfl⟩
theorem grown_trans {a b c : World} {g : Nat} (h : a.grownBy b (some g)) (k : b.grownBy c (some g)) : a.grownBy c (some g) := grown_more h k fun _ e => .inr e
theorem grown_of {a w : World} (h : Below a.heap.size a w) (row : Option Nat) : a.grownBy w row := grown_below (grown_refl a row) h
end SValV

end Go.Proofs.YtblbhlgihlgncaaDoor


/- Schemas as words: packing and reading, in plain words. No program in sight. -/
import Derived.Test.YtbhnbjaafejcjaaDoorSch
set_option linter.unusedVariables false
namespace Go.Proofs.YtbhnbjaafejcjaaDoor
open Go.RowKit

/-- A field as a number below 64. -/
def digit (p : Int × Int) : Nat := p.2.toNat * 8 + p.1.toNat
def digs : Fields → Nat
  | [] => 0
  | p :: l => digit p + 64 * digs l
def packN (l : Fields) : Nat := l.length + 8 * digs l
def packS (s : Schema) : List (BitVec 64) := if rightB s then s.map (fun l => BitVec.ofNat 64 (packN l)) else []

/-- n fields of a number. -/
def unN : Nat → Nat → Fields
  | 0, _ => []
  | n + 1, m => (((m % 8 : Nat) : Int), ((m / 8 % 8 : Nat) : Int)) :: unN n (m / 64)
def readN (x : Nat) : Fields := unN (x % 8) (x / 8)
def readS (ws : List (BitVec 64)) : Schema := ws.map fun x => readN x.toNat
/-- What is left behind the fields. -/
def leftN (x : Nat) : Nat := x / 8 / 64 ^ (x % 8)

theorem unN_length : ∀ n m, (unN n m).length = n
  | 0, _ => rfl
  | n + 1, m => by simp [unN, unN_length n]
theorem unN_get : ∀ n m i, i < n → (unN n m)[i]? = some (((m / 64 ^ i % 8 : Nat) : Int), ((m / 64 ^ i / 8 % 8 : Nat) : Int))
  | 0, m, i, h => by omega
  | n + 1, m, 0, h => by simp [unN]
  | n + 1, m, i + 1, h => by
    rw [unN, List.getElem?_cons_succ, unN_get n (m / 64) i (by omega), Nat.div_div_eq_div_mul, Nat.pow_succ, Nat.mul_comm 64]
theorem digs_un : ∀ n m, digs (unN n m) = m % 64 ^ n
  | 0, m => by simp [unN, digs, Nat.mod_one]
  | n + 1, m => by
    rw [unN, digs, digs_un n (m / 64), digit, Nat.pow_succ, Nat.mul_comm (64 ^ n), Nat.mod_mul]
    simp only [Int.toNat_natCast]
    omega
theorem pack_read (x : Nat) (h : leftN x = 0) : packN (readN x) = x := by
  unfold packN readN
  rw [unN_length, digs_un]
  have : x / 8 < 64 ^ (x % 8) := by
    have := (Nat.div_eq_zero_iff).1 h
    rcases this with h | h
    · exact absurd h (Nat.pos_iff_ne_zero.1 (Nat.pow_pos (by decide)))
    · exact h
  rw [Nat.mod_eq_of_lt this]
  omega
theorem pack_read_ne (x : Nat) (h : leftN x ≠ 0) : packN (readN x) < x := by
  unfold packN readN
  rw [unN_length, digs_un]
  have h2 : 64 ^ (x % 8) ≤ x / 8 := by
    rcases Nat.lt_or_ge (x / 8) (64 ^ (x % 8)) with h1 | h1
    · exact absurd (Nat.div_eq_of_lt h1) h
    · exact h1
  have := Nat.mod_lt (x / 8) (show 64 ^ (x % 8) > 0 from Nat.pow_pos (by decide))
  omega

/-- A field that may be written in six bits. -/
def Small (p : Int × Int) : Prop := 0 ≤ p.1 ∧ p.1 < 8 ∧ 0 ≤ p.2 ∧ p.2 < 8
theorem digit_lt {p : Int × Int} (h : Small p) : digit p < 64 := by obtain ⟨h1, h2, h3, h4⟩ := h; unfold digit; omega
theorem digs_lt : ∀ (l : Fields), (∀ p ∈ l, Small p) → digs l < 64 ^ l.length
  | [], _ => by simp [digs]
  | p :: l, h => by
    have h1 := digit_lt (h p (by simp))
    have h2 := digs_lt l (fun q hq => h q (by simp [hq]))
    rw [digs, List.length_cons, Nat.pow_succ]
    omega
theorem un_digs : ∀ (l : Fields), (∀ p ∈ l, Small p) → unN l.length (digs l) = l
  | [], _ => rfl
  | p :: l, h => by
    have h1 := digit_lt (h p (by simp))
    obtain ⟨a, b, c, d⟩ := h p (by simp)
    have e1 : (digit p + 64 * digs l) / 64 = digs l := by omega
    rw [List.length_cons, unN, digs, e1, un_digs l (fun q hq => h q (by simp [hq]))]
    congr 1
    unfold digit
    refine Prod.ext ?_ ?_ <;> simp only <;> omega
theorem read_pack (l : Fields) (h : ∀ p ∈ l, Small p) (h6 : l.length < 8) : readN (packN l) = l := by
  unfold readN packN
  rw [show (l.length + 8 * digs l) % 8 = l.length by omega, show (l.length + 8 * digs l) / 8 = digs l by omega, un_digs l h]
theorem packN_lt (l : Fields) (h : ∀ p ∈ l, Small p) (h6 : l.length ≤ 6) : packN l < 18446744073709551616 := by
  have h1 := digs_lt l h
  have h2 : 64 ^ l.length ≤ 64 ^ 6 := Nat.pow_le_pow_right (by decide) h6
  unfold packN
  omega

theorem right_small {s : Schema} (h : rightB s = true) : 1 ≤ s.length ∧ s.length ≤ 8 ∧ ∀ l ∈ s, 1 ≤ l.length ∧ l.length ≤ 6 ∧ ∀ p ∈ l, Small p := by
  unfold rightB at h
  rw [Bool.and_eq_true, List.all_eq_true] at h
  obtain ⟨h1, h2⟩ := h
  have h1 := of_decide_eq_true h1
  refine ⟨h1.1, h1.2, fun l hl => ?_⟩
  have h3 := h2 l hl
  unfold lOk at h3
  rw [Bool.and_eq_true, List.all_eq_true] at h3
  obtain ⟨h4, h5⟩ := h3
  have h4 := of_decide_eq_true h4
  refine ⟨h4.1, h4.2, fun p hp => ?_⟩
  have h6 := of_decide_eq_true (h5 p hp)
  exact ⟨by omega, by omega, by omega, by omega⟩

theorem readS_packS {s : Schema} (h : rightB s = true) : readS (packS s) = s := by
  unfold readS packS
  rw [if_pos h, List.map_map]
  obtain ⟨_, _, h3⟩ := right_small h
  conv => rhs; rw [← List.map_id s]
  refine List.map_congr_left fun l hl => ?_
  obtain ⟨h4, h5, h6⟩ := h3 l hl
  simp only [Function.comp, id, BitVec.toNat_ofNat]
  rw [Nat.mod_eq_of_lt (packN_lt l h6 h5), read_pack l h6 (by omega)]

theorem packS_inj {s t : Schema} (h : rightB s = true) (h' : rightB t = true) : packS s = packS t ↔ s = t :=
  ⟨fun e => by rw [← readS_packS h, e, readS_packS h'], fun e => by rw [e]⟩

/-- Is there a schema of these words? -/
def readOk (ws : List (BitVec 64)) : Bool := rightB (readS ws) && ws.all (fun x => decide (leftN x.toNat = 0))

theorem packS_readS (ws : List (BitVec 64)) (h : rightB (readS ws) = true) : packS (readS ws) = ws ↔ ∀ x ∈ ws, leftN x.toNat = 0 := by
  unfold packS
  rw [if_pos h]
  unfold readS
  rw [List.map_map]
  constructor
  · intro e x hx
    obtain ⟨i, hi, rfl⟩ := List.mem_iff_getElem.1 hx
    have := congrArg (fun l => l[i]?) e
    simp only [List.getElem?_map, List.getElem?_eq_getElem hi, Option.map_some, Function.comp] at this
    have h1 := congrArg BitVec.toNat (Option.some.inj this)
    rw [BitVec.toNat_ofNat] at h1
    apply Classical.byContradiction
    intro hne
    have h2 := pack_read_ne _ hne
    have h3 := Nat.mod_le (packN (readN ws[i].toNat)) (2 ^ 64)
    omega
  · intro hx
    conv => rhs; rw [← List.map_id ws]
    refine List.map_congr_left fun x hm => ?_
    simp only [Function.comp, id]
    rw [pack_read _ (hx x hm)]
    simp

theorem readOk_eq (ws : List (BitVec 64)) : readOk ws = (rightB (readS ws) && decide (packS (readS ws) = ws)) := by
  unfold readOk
  cases h : rightB (readS ws)
  · rfl
  · rw [Bool.true_and, Bool.true_and, Bool.eq_iff_iff, List.all_eq_true, decide_eq_true_iff, packS_readS ws h]
    simp
end Go.Proofs.YtbhnbjaafejcjaaDoor


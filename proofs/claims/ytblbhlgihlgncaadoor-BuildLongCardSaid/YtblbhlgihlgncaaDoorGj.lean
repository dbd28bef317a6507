/- References: put together, and taken apart. -/
import Derived.Test.YtblbhlgihlgncaaDoorGg
import Derived.Test.YtblbhlgihlgncaaDoorGa
set_option linter.unusedVariables false
set_option linter.unusedSimpArgs false
namespace Go.Proofs.YtblbhlgihlgncaaDoor
section SBRef
open Go.RowKit

/-- A reference's word, and its two numbers. -/
def refV (a b : Int) : BitVec 64 := BitVec.ofNat 64 ((a % 4294967296).toNat + (b % 4294967296).toNat * 4294967296)
def loV (x : BitVec 64) : Int := ((x.toNat % 4294967296 : Nat) : Int)
def hiV (x : BitVec 64) : Int := ((x.toNat / 4294967296 : Nat) : Int)

theorem half_nat (a : Int) : (BitVec.ofInt 64 (a % 4294967296)).toNat = (a % 4294967296).toNat ∧ (a % 4294967296).toNat < 4294967296 := by
  have h0 := Int.emod_nonneg a (show (4294967296 : Int) ≠ 0 by decide)
  have h1 := Int.emod_lt_of_pos a (show (0 : Int) < 4294967296 by decide)
  refine ⟨?_, by omega⟩
  rw [BitVec.toNat_ofInt]
  omega
theorem refV_nat (a b : Int) : (refV a b).toNat = (a % 4294967296).toNat + (b % 4294967296).toNat * 4294967296 := by
  have h1 := (half_nat a).2
  have h2 := (half_nat b).2
  rw [refV, BitVec.toNat_ofNat]
  exact Nat.mod_eq_of_lt (by omega)
theorem ref_shl (b : Int) : (BitVec.ofInt 64 (b % 4294967296) <<< 32).toNat = (b % 4294967296).toNat * 4294967296 := by
  obtain ⟨h1, h2⟩ := half_nat b
  rw [BitVec.toNat_shiftLeft, h1, Nat.shiftLeft_eq, show 2 ^ 32 = 4294967296 from rfl]
  exact Nat.mod_eq_of_lt (by omega)
theorem ref_or (a b : Int) : BitVec.ofInt 64 (a % 4294967296) ||| BitVec.ofInt 64 (b % 4294967296) <<< 32 = refV a b := by
  obtain ⟨h1, h2⟩ := half_nat a
  apply BitVec.eq_of_toNat_eq
  rw [refV_nat, BitVec.toNat_or, ref_shl, h1, show (4294967296 : Nat) = 2 ^ 32 from rfl, ← Nat.shiftLeft_eq, Nat.or_comm, ← Nat.shiftLeft_add_eq_or_of_lt (by rw [show (2 : Nat) ^ 32 = 4294967296 from rfl]; exact h2), Nat.add_comm]
theorem ref_add (a b : Int) : BitVec.ofInt 64 (a % 4294967296) + BitVec.ofInt 64 (b % 4294967296) <<< 32 = refV a b := by
  obtain ⟨h1, h2⟩ := half_nat a
  have h3 := (half_nat b).2
  apply BitVec.eq_of_toNat_eq
  rw [refV_nat, BitVec.toNat_add, ref_shl, h1]
  exact Nat.mod_eq_of_lt (by omega)

set_option maxHeartbeats 2000000 in
theorem ref_any (a b : Int) (w : World) : Calls Tryd.prog 19 #[.int .i64 a, .int .i64 b] w fun r w' => r = .returned (U (refV a b)) ∧ w' = w := by
  go_enter Tryd.func19, Tryd.ntmps19
  go_wp2
  go_ret
  exact ⟨by rw [← ref_or]; rfl, rfl⟩

set_option maxHeartbeats 2000000 in
theorem rref_any (a b : Int) (w : World) : Calls Tryd.prog 52 #[.int .i64 a, .int .i64 b] w fun r w' => r = .returned (U (refV a b)) ∧ w' = w := by
  go_enter Tryd.func52, Tryd.ntmps52
  go_wp2
  go_ret
  exact ⟨by rw [← ref_add]; rfl, rfl⟩

@[go_sem] theorem run_convert_U32 {P : Program} (w : World) (src dst : TypeId) (x : BitVec 64) (hs : (P.underlying src).isSome = true) (hd : P.underlying dst = some (.int .u32)) :
    (convert src dst (U x)).run P w = .ok (.int .u32 (loV x)) w := by
  obtain ⟨d, hd'⟩ := Option.isSome_iff_exists.mp hs
  have e : IntKind.u32.wrap (x.toNat : Int) = loV x := by
    rw [IntKind.wrap_u32]
    unfold loV
    omega
  simp [convert, U, run_underlying hd', run_underlying hd, Conv.intToInt, e]
theorem loV_bd (x : BitVec 64) : 0 ≤ loV x ∧ loV x < 4294967296 := by unfold loV; omega
theorem hi_shr (x : BitVec 64) : (x >>> 32).toInt = hiV x := by
  have h := x.isLt
  have e : (x >>> 32).toNat = x.toNat / 4294967296 := by rw [BitVec.toNat_ushiftRight, Nat.shiftRight_eq_div_pow]
  rw [BitVec.toInt_eq_toNat_cond, e, if_pos (by omega)]; rfl

set_option maxRecDepth 100000 in
set_option maxHeartbeats 2000000 in
theorem part_any (x : BitVec 64) (w : World) : Calls Tryd.prog 69 #[U x] w fun r w' => r = .returned (.tuple #[.int .i64 (loV x), .int .i64 (hiV x)]) ∧ w' = w := by
  go_enter Tryd.func69, Tryd.ntmps69
  have hb := loV_bd x
  have hh := hi_shr x
  have hw : wrap64 (loV x) = loV x := by obtain ⟨hb0, hb1⟩ := hb; unfold wrap64; omega
  clear hb
  generalize hiV x = hi at *
  go_wp2
  go_returns
  exact ⟨by show Ending.returned (.tuple #[.int .i64 (wrap64 (loV x)), .int .i64 hi]) = _; rw [hw], rfl⟩
end SBRef

section SBldV
open Go.RowKit

def foldI {α β : Type} (f : Nat → α → β → β) : Nat → List α → β → β
  | _, [], b => b
  | i, x :: l, b => foldI f (i + 1) l (f i x b)
theorem foldI_append {α β : Type} (f : Nat → α → β → β) : ∀ (l m : List α) (i : Nat) (b : β), foldI f i (l ++ m) b = foldI f (i + l.length) m (foldI f i l b)
  | [], m, i, b => rfl
  | x :: l, m, i, b => by
    simp only [List.cons_append, foldI, List.length_cons]
    rw [foldI_append f l m (i + 1), show i + 1 + l.length = i + (l.length + 1) by omega]
theorem foldI_succ {α β : Type} (f : Nat → α → β → β) (l : List α) (i : Nat) (x : α) (b : β) (h : l[i]? = some x) : foldI f 0 (l.take (i + 1)) b = f i x (foldI f 0 (l.take i) b) := by
  have hi : i < l.length := (List.getElem?_eq_some_iff.1 h).1
  rw [List.take_add_one, h, foldI_append]
  simp only [Option.toList_some, foldI, List.length_take, Nat.zero_add, Nat.min_eq_left (Nat.le_of_lt hi)]
theorem foldI_all {α β : Type} (f : Nat → α → β → β) (l : List α) (i : Nat) (b : β) (h : l.length ≤ i) : foldI f 0 (l.take i) b = foldI f 0 l b := by rw [List.take_of_length_le h]

/-- Words are laid behind all, to which the word at p refers then. -/
def layW (p n : Nat) (ys ws : List (BitVec 64)) : List (BitVec 64) := if n = 0 then ws else ws.set p (refV ((ws.length : Int) - p) n) ++ ys

/-- A field's word, and all that it refers to. -/
def fieldW {α : Type} (nf : Nat) (rec : α → List (BitVec 64) → Nat → List (BitVec 64)) (kd : Int) (k : Node α) (p : Nat) (ws : List (BitVec 64)) : List (BitVec 64) :=
  if kd = 1 then ws.set p k.num
  else if kd = 2 then layW p k.bytes.size (wordsV k.bytes.data.toList) ws
  else if kd = 3 then layW p k.nums.length k.nums ws
  else foldI (fun j x w => rec x w (ws.length + nf * j)) 0 k.kids (layW p k.kids.length (List.replicate (nf * k.kids.length) 0#64) ws)

/-- A struct's words, that lie at a place, and all that they refer to, behind all. -/
def bldW (s : Schema) : (d : Nat) → Int → St d → List (BitVec 64) → Nat → List (BitVec 64)
  | 0, _, v, _, _ => nomatch v
  | d + 1, t, v, ws, p => foldI (fun i k w => fieldW (typeL s (fieldP s t i).2).length (bldW s d (fieldP s t i).2) (fieldP s t i).1 k (p + i) w) 0 (Node.kids v) ws

/-- A struct's message. -/
def buildW (s : Schema) (d : Nat) (t : Int) (v : St (d + 1)) : List (BitVec 64) :=
  (fun ws => ws.set 0 (refV (ws.length : Int) t)) (bldW s (d + 1) t v (List.replicate (1 + (Node.kids v).length) 0#64) 1)

theorem layW_len (p n : Nat) (ys ws : List (BitVec 64)) (h : n = 0 → ys = []) : (layW p n ys ws).length = ws.length + ys.length := by
  unfold layW
  split
  · next h0 => rw [h h0]; simp
  · simp

/-- What a struct is that Check finds right. -/
theorem code_struct {s : Schema} {d left : Nat} {t : Int} {v : St (d + 1)} (h : codeT s (d + 1) left t v = 0) :
    0 < left ∧ Node.num v = 0#64 ∧ (Node.bytes v).size = 0 ∧ (Node.nums v).length = 0 ∧ (Node.kids v).length = (typeL s t).length ∧
      ∀ (i : Nat) (k : Node (St d)), (Node.kids v)[i]? = some k → hasB (fieldP s t i).1 k = true ∧ ∀ x ∈ k.kids, codeT s d (left - 1) (fieldP s t i).2 x = 0 := by
  rw [codeT] at h
  split at h
  · exact absurd h (by decide)
  next hl =>
  split at h
  · exact absurd h (by decide)
  next hv =>
  simp only [not_or, Decidable.not_not] at hv
  refine ⟨by omega, hv.1, hv.2.1, hv.2.2.1, hv.2.2.2, fun i k hk => ?_⟩
  have h2 := firstE_zero _ _ 0 h i k hk
  rw [Nat.zero_add] at h2
  split at h2
  · next hb =>
    refine ⟨hb, fun x hx => ?_⟩
    obtain ⟨j, hj⟩ := List.getElem?_of_mem hx
    exact firstE_zero _ _ 0 h2 j x hj
  · exact absurd h2 (by decide)
end SBldV

section SPlBits
theorem bit_all (n : Nat) (hn : n ≤ 64) (i : Nat) (hi : i < 64) : (allV n).getLsbD i = decide (i < n) := by
  unfold allV
  rw [BitVec.getLsbD_ushiftRight, BitVec.getLsbD_allOnes, decide_eq_decide]
  omega

theorem fits_bit {n : Nat} (hn : n ≤ 64) {v : BitVec 64} (h : (v &&& ~~~ allV n) = 0#64) (i : Nat) (hi : n ≤ i) : v.getLsbD i = false := by
  by_cases h64 : i < 64
  · have := congrArg (fun z => z.getLsbD i) h
    simp only [BitVec.getLsbD_and, BitVec.getLsbD_not, bit_all n hn i h64, h64, decide_true, BitVec.getLsbD_zero] at this
    have hd : decide (i < n) = false := by simp; omega
    rw [hd] at this
    simpa using this
  · exact BitVec.getLsbD_of_ge _ _ (by omega)

theorem fits_of_bits {n : Nat} (hn : n ≤ 64) {v : BitVec 64} (h : ∀ i, n ≤ i → v.getLsbD i = false) : (v &&& ~~~ allV n) = 0#64 := by
  apply BitVec.eq_of_getLsbD_eq
  intro i hi
  simp only [BitVec.getLsbD_and, BitVec.getLsbD_not, bit_all n hn i hi, hi, decide_true, BitVec.getLsbD_zero]
  by_cases h2 : i < n
  · simp [h2]
  · rw [h i (by omega)]; rfl

theorem bit_set (w v : BitVec 64) (p n : Nat) (hn : n ≤ 64) (hf : (v &&& ~~~ allV n) = 0#64) (i : Nat) (hi : i < 64) :
    (setV w p n v).getLsbD i = if p ≤ i ∧ i < p + n then v.getLsbD (i - p) else w.getLsbD i := by
  unfold setV
  rw [Int.toNat_natCast]
  simp only [BitVec.getLsbD_or, BitVec.getLsbD_and, BitVec.getLsbD_not, BitVec.getLsbD_shiftLeft, hi, decide_true, Bool.true_and]
  by_cases h1 : i < p
  · have h2 : ¬ p ≤ i := by omega
    simp [h1, h2]
  · have h2 : p ≤ i := by omega
    rw [bit_all n hn _ (by omega)]
    by_cases h3 : i < p + n
    · have h4 : i - p < n := by omega
      simp [h1, h2, h3, h4]
    · have h4 : ¬ i - p < n := by omega
      rw [fits_bit hn hf (i - p) (by omega)]
      simp [h1, h3, h4]

theorem bit_get (w : BitVec 64) (p n : Nat) (h1 : 1 ≤ n) (h2 : p + n ≤ 64) (i : Nat) (hi : i < 64) :
    (getV w p n).getLsbD i = (decide (i < n) && w.getLsbD (p + i)) := by
  unfold getV
  have : mayB p n = true := by simp [mayB]; omega
  rw [if_pos this, Int.toNat_natCast, BitVec.getLsbD_and, BitVec.getLsbD_ushiftRight, bit_all n (by omega) i hi, Bool.and_comm]

theorem setOk_of (p n : Nat) (h1 : 1 ≤ n) (h2 : p + n ≤ 64) (v : BitVec 64) (hf : (v &&& ~~~ allV n) = 0#64) : setOk p n v = true := by
  unfold setOk
  have : mayB p n = true := by simp [mayB]; omega
  rw [this, hf]; rfl

theorem get_set (w v : BitVec 64) (p n : Nat) (h1 : 1 ≤ n) (h2 : p + n ≤ 64) (hf : (v &&& ~~~ allV n) = 0#64) : getV (setV w p n v) p n = v := by
  apply BitVec.eq_of_getLsbD_eq
  intro i hi
  rw [bit_get _ p n h1 h2 i hi]
  by_cases h3 : i < n
  · rw [bit_set w v p n (by omega) hf _ (by omega), if_pos (by omega)]
    simp [h3]
  · rw [fits_bit (by omega) hf i (by omega)]; simp [h3]

theorem get_fits (w : BitVec 64) (p n : Nat) (h1 : 1 ≤ n) (h2 : p + n ≤ 64) : (getV w p n &&& ~~~ allV n) = 0#64 :=
  fits_of_bits (by omega) fun i hi => by
    by_cases h : i < 64
    · rw [bit_get w p n h1 h2 i h]
      have : ¬ i < n := by omega
      simp [this]
    · exact BitVec.getLsbD_of_ge _ _ (by omega)

theorem set_back (w v : BitVec 64) (p n : Nat) (h1 : 1 ≤ n) (h2 : p + n ≤ 64) (hf : (v &&& ~~~ allV n) = 0#64) : setV (setV w p n v) p n (getV w p n) = w := by
  apply BitVec.eq_of_getLsbD_eq
  intro i hi
  rw [bit_set _ _ p n (by omega) (get_fits w p n h1 h2) i hi]
  by_cases h3 : p ≤ i ∧ i < p + n
  · rw [if_pos h3, bit_get w p n h1 h2 _ (by omega)]
    have : i - p < n := by omega
    rw [show p + (i - p) = i by omega]
    simp [this]
  · rw [if_neg h3, bit_set w v p n (by omega) hf i hi, if_neg h3]

/-- A mask of n bits. -/
theorem mask_all (n : Nat) (h1 : 1 ≤ n) (h2 : n < 64) : 1#64 <<< n - 1#64 = allV n := by
  apply BitVec.eq_of_toNat_eq
  have hp : 2 ^ n < 2 ^ 64 := Nat.pow_lt_pow_right (by decide) h2
  have h0 : 0 < 2 ^ n := Nat.pow_pos (by decide)
  unfold allV
  rw [BitVec.toNat_sub, BitVec.toNat_shiftLeft, BitVec.toNat_ushiftRight, Nat.shiftLeft_eq, Nat.shiftRight_eq_div_pow]
  have ha : (BitVec.allOnes 64).toNat = 2 ^ 64 - 1 := by decide
  have h1' : (1#64).toNat = 1 := by decide
  have e : ((64 : Int) - (n : Int)).toNat = 64 - n := by omega
  rw [ha, h1', e, Nat.one_mul, Nat.mod_eq_of_lt hp]
  have hq : 2 ^ 64 = 2 ^ n * 2 ^ (64 - n) := by rw [← Nat.pow_add]; congr 1; omega
  have hk : 0 < 2 ^ (64 - n) := Nat.pow_pos (by decide)
  have hdiv : (2 ^ 64 - 1) / 2 ^ (64 - n) = 2 ^ n - 1 := by
    rw [hq]
    have : 2 ^ n * 2 ^ (64 - n) - 1 = (2 ^ n - 1) * 2 ^ (64 - n) + (2 ^ (64 - n) - 1) := by
      rw [Nat.sub_mul, Nat.one_mul]
      have : 2 ^ (64 - n) ≤ 2 ^ n * 2 ^ (64 - n) := Nat.le_mul_of_pos_left _ h0
      omega
    rw [this, Nat.add_comm, Nat.add_mul_div_right _ _ hk, Nat.div_eq_of_lt (by omega)]
    omega
  rw [hdiv]
  omega

theorem all64 : allV 64 = BitVec.allOnes 64 := by decide

theorem and_all_fits (v : BitVec 64) (n : Nat) : (v &&& allV n) &&& ~~~ allV n = 0#64 := by
  apply BitVec.eq_of_getLsbD_eq
  intro i hi
  simp only [BitVec.getLsbD_and, BitVec.getLsbD_not, BitVec.getLsbD_zero, hi, decide_true, Bool.true_and]
  cases (allV n).getLsbD i <;> simp

theorem bit1 (x : BitVec 64) (i : Nat) : (x >>> i) &&& 1#64 = if x.getLsbD i then 1#64 else 0#64 := by
  apply BitVec.eq_of_getLsbD_eq
  intro j hj
  rw [BitVec.getLsbD_and, BitVec.getLsbD_ushiftRight]
  cases j with
  | zero => cases x.getLsbD i <;> simp
  | succ j =>
    have : (1#64).getLsbD (j + 1) = false := by
      rw [BitVec.getLsbD_ofNat]; simp [Nat.testBit_succ]
    rw [this]
    cases h : x.getLsbD i <;> simp [this]
end SPlBits

section SPlText
open Go.RowKit

/-- The word that has been put together when m bytes, from the eighth down, have been taken. -/
def downV (f : Nat → UInt8) : Nat → BitVec 64
  | 0 => 0#64
  | m + 1 => 256#64 * downV f m + BitVec.ofNat 64 (f (7 - m)).toNat

theorem bit_byte (b : UInt8) (t : Nat) (ht : t < 64) : (BitVec.ofNat 64 b.toNat).getLsbD t = b.toNat.testBit t := by
  rw [BitVec.getLsbD_ofNat]; simp [ht]

theorem byte_hi (b : UInt8) (t : Nat) (ht : 8 ≤ t) : b.toNat.testBit t = false := by
  apply Nat.testBit_lt_two_pow
  have h1 : b.toNat < 2 ^ 8 := b.toNat_lt
  have h2 : 2 ^ 8 ≤ 2 ^ t := Nat.pow_le_pow_right (by decide) ht
  omega

theorem bit_256 (x : BitVec 64) (b : UInt8) (t : Nat) (ht : t < 64) : (256#64 * x + BitVec.ofNat 64 b.toNat).getLsbD t = if t < 8 then b.toNat.testBit t else x.getLsbD (t - 8) := by
  have e1 : 256#64 * x = x <<< 8 := by
    apply BitVec.eq_of_toNat_eq
    rw [BitVec.toNat_mul, BitVec.toNat_shiftLeft, Nat.shiftLeft_eq, Nat.mul_comm]; rfl
  rw [e1, BitVec.add_eq_or_of_and_eq_zero]
  · rw [BitVec.getLsbD_or, BitVec.getLsbD_shiftLeft, bit_byte b t ht]
    by_cases h : t < 8
    · simp [h]
    · rw [byte_hi b t (by omega)]; simp [h, ht]
  · apply BitVec.eq_of_getLsbD_eq
    intro j hj
    rw [BitVec.getLsbD_and, BitVec.getLsbD_shiftLeft, bit_byte b j hj, BitVec.getLsbD_zero]
    by_cases h : j < 8
    · simp [h]
    · rw [byte_hi b j (by omega)]; simp

theorem bit_down (f : Nat → UInt8) : ∀ (m : Nat), m ≤ 8 → ∀ t, t < 64 → (downV f m).getLsbD t = (decide (t < 8 * m) && (f (8 - m + t / 8)).toNat.testBit (t % 8))
  | 0, _, t, _ => by simp [downV]
  | m + 1, hm, t, ht => by
    rw [downV, bit_256 _ _ t ht]
    by_cases h : t < 8
    · have h1 : t < 8 * (m + 1) := by omega
      rw [if_pos h, show 8 - (m + 1) + t / 8 = 7 - m by omega, show t % 8 = t by omega]
      simp [h1]
    · rw [if_neg h, bit_down f m (by omega) (t - 8) (by omega), show 8 - m + (t - 8) / 8 = 8 - (m + 1) + t / 8 by omega, show (t - 8) % 8 = t % 8 by omega]
      congr 1
      rw [decide_eq_decide]; omega

theorem bit_le (l : List UInt8) : ∀ (k : Nat), k ≤ 8 → ∀ t, t < 64 → (leV l k).getLsbD t = (decide (t < 8 * k) && (l.getD (t / 8) 0).toNat.testBit (t % 8))
  | 0, _, t, _ => by simp [leV]
  | k + 1, hk, t, ht => by
    rw [leV, BitVec.getLsbD_or, bit_le l k (by omega) t ht, BitVec.getLsbD_shiftLeft]
    by_cases h1 : t < 8 * k
    · have h2 : t < 8 * (k + 1) := by omega
      simp [h1, h2]
    · by_cases h2 : t < 8 * (k + 1)
      · have e1 : t / 8 = k := by omega
        have e2 : t % 8 = t - 8 * k := by omega
        rw [bit_byte _ _ (by omega), e1, e2]
        simp [h1, h2, ht]
      · rw [bit_byte _ (t - 8 * k) (by omega), byte_hi _ (t - 8 * k) (by omega)]
        simp [h1, h2]

theorem down_word (l : List UInt8) (i : Nat) (hi : (i : Int) < countV l.length) : downV (fun k => l.getD (8 * i + k) 0) 8 = wordV l i := by
  rw [wordV_in l i _ hi rfl]
  apply BitVec.eq_of_getLsbD_eq
  intro t ht
  rw [bit_down _ 8 (by omega) t ht, bit_le _ _ (by omega) t ht]
  have e : (l.drop (8 * i)).getD (t / 8) 0 = l.getD (8 * i + t / 8) 0 := by simp [List.getD]
  rw [e, show 8 - 8 + t / 8 = t / 8 by omega]
  by_cases h : t < 8 * min 8 (l.length - 8 * i)
  · have : t < 8 * 8 := by omega
    simp [h, this]
  · have h2 : l.length ≤ 8 * i + t / 8 := by omega
    have h3 : l.getD (8 * i + t / 8) 0 = 0 := by
      rw [List.getD_eq_getElem?_getD, List.getElem?_eq_none h2]; rfl
    rw [h3]
    simp [h]


theorem bit_by8 (x : BitVec 64) (t : Nat) : (by8 x).toNat.testBit t = (decide (t < 8) && x.getLsbD t) := by
  unfold by8
  rw [UInt8.toNat_ofNat', Nat.testBit_mod_two_pow, ← BitVec.testBit_toNat]

theorem u8_ext {a b : UInt8} (h : ∀ t, t < 8 → a.toNat.testBit t = b.toNat.testBit t) : a = b := by
  rw [← UInt8.toNat_inj]
  apply Nat.eq_of_testBit_eq
  intro t
  by_cases ht : t < 8
  · exact h t ht
  · rw [byte_hi a t (by omega), byte_hi b t (by omega)]

theorem wordsV_length (l : List UInt8) : (wordsV l).length = (countV l.length).toNat := by simp [wordsV]

theorem words_getD (l : List UInt8) (i : Nat) (hi : (i : Int) < countV l.length) : (wordsV l).getD i 0#64 = wordV l i := by
  have : i < (countV l.length).toNat := by omega
  simp [wordsV, List.getD, this]

theorem byteAt_words (l : List UInt8) (t : Nat) (ht : (t / 8 : Nat) < (countV l.length).toNat) : byteAt (wordsV l) t = l.getD t 0 := by
  apply u8_ext
  intro b hb
  unfold byteAt
  rw [words_getD l (t / 8) (by omega), bit_by8, BitVec.getLsbD_ushiftRight, wordV_in l (t / 8) _ (by omega) rfl]
  have h1 : 8 * (t % 8) + b < 64 := by omega
  rw [bit_le _ _ (by omega) _ h1]
  have e1 : (8 * (t % 8) + b) / 8 = t % 8 := by omega
  have e2 : (8 * (t % 8) + b) % 8 = b := by omega
  rw [e1, e2]
  have e3 : (l.drop (8 * (t / 8))).getD (t % 8) 0 = l.getD t 0 := by
    rw [List.getD_eq_getElem?_getD, List.getD_eq_getElem?_getD, List.getElem?_drop]
    congr 2; omega
  rw [e3]
  by_cases hlt : t < l.length
  · have : 8 * (t % 8) + b < 8 * min 8 (l.length - 8 * (t / 8)) := by omega
    simp [hb, this]
  · have : l.getD t 0 = 0 := by rw [List.getD_eq_getElem?_getD, List.getElem?_eq_none (by omega)]; rfl
    rw [this]
    simp

theorem count_cast (n : Nat) : ((countV n).toNat : Int) = countV n := Int.toNat_of_nonneg (count_le n (by omega)).1
theorem count_ge (n : Nat) : (n : Int) ≤ 8 * countV n := by unfold countV; split <;> omega

theorem words_text (l : List UInt8) : textOk (wordsV l) l.length = true ∧ textV (wordsV l) l.length = l := by
  have hlen : ((wordsV l).length : Int) = countV l.length := by rw [wordsV_length, count_cast]
  have hge := count_ge l.length
  obtain ⟨e1, e2⟩ := textOk_of (wordsV l) l.length hlen (fun t h1 h2 => by
    rw [byteAt_words l t (by rw [wordsV_length] at h2; omega), List.getD_eq_getElem?_getD, List.getElem?_eq_none h1]; rfl)
  refine ⟨e1, ?_⟩
  rw [e2]
  apply List.ext_getElem?
  intro i
  rw [List.getElem?_take]
  by_cases hi : i < l.length
  · rw [if_pos hi, bytesV_get _ _ (by omega), byteAt_words l i (by rw [← wordsV_length]; omega), List.getD_eq_getElem?_getD, List.getElem?_eq_getElem hi]; rfl
  · rw [if_neg hi, List.getElem?_eq_none (by omega)]

theorem text_len_no (ws : List (BitVec 64)) (n : Int) (h : n < 0 ∨ (ws.length : Int) ≠ countV n) : textOk ws n = false := by
  unfold textOk
  rcases h with h | h
  · have : decide (0 ≤ n) = false := by simp; omega
    rw [this]; rfl
  · have : decide ((ws.length : Int) = countV n) = false := by simpa using h
    rw [this]; simp

theorem words_more (l : List UInt8) : textOk (wordsV l ++ [0#64]) l.length = false :=
  text_len_no _ _ (.inr (by rw [List.length_append, wordsV_length]; have := count_cast l.length; simp; omega))

theorem words_less (l : List UInt8) : textOk (wordsV l) ((l.length : Int) - 8) = false := by
  apply text_len_no
  by_cases h : l.length < 8
  · exact .inl (by omega)
  · refine .inr ?_
    rw [wordsV_length, count_cast]
    unfold countV
    split <;> split <;> omega
end SPlText

section SLies
open Go.RowKit

/-- How many words a field has behind a struct's own; and all fields. -/
def fszT (d : Nat) (k : Node (St d)) : Nat := (k.bytes.size + 7) / 8 + k.nums.length + sumL (wordsT d) k.kids
def belowT : (d : Nat) → St d → Nat
  | 0, v => nomatch v
  | d + 1, v => sumL (fszT d) (Node.kids v)
def nkT : (d : Nat) → St d → Nat
  | 0, v => nomatch v
  | _ + 1, v => (Node.kids v).length
theorem words_below : ∀ (d : Nat) (v : St d), wordsT d v = nkT d v + belowT d v
  | 0, v => nomatch v
  | _ + 1, _ => rfl

/-- Words that lie from a place on; a reference. -/
def HasW (ws : List (BitVec 64)) (lo : Nat) (ys : List (BitVec 64)) : Prop := ∀ j x, ys[j]? = some x → ws[lo + j]? = some x
def RefW (ws : List (BitVec 64)) (p lo n : Nat) : Prop := ws[p]? = some (if n = 0 then 0#64 else refV ((lo : Int) - p) n)

/-- A field's word lies at p, and what it refers to from lo on. -/
def LieF {α : Type} (nf : Nat) (bel : α → Nat) (rec : α → Nat → Nat → Prop) (kd : Int) (k : Node α) (ws : List (BitVec 64)) (p lo : Nat) : Prop :=
  if kd = 1 then ws[p]? = some k.num
  else if kd = 2 then RefW ws p lo k.bytes.size ∧ HasW ws lo (wordsV k.bytes.data.toList)
  else if kd = 3 then RefW ws p lo k.nums.length ∧ HasW ws lo k.nums
  else RefW ws p lo k.kids.length ∧ ∀ (j : Nat) (x : α), k.kids[j]? = some x → rec x (lo + nf * j) (lo + nf * k.kids.length + sumL bel (k.kids.take j))

/-- A struct's words lie at p, and all that they refer to from lo on. -/
def LieS (s : Schema) : (d : Nat) → Int → St d → List (BitVec 64) → Nat → Nat → Prop
  | 0, _, v, _, _, _ => nomatch v
  | d + 1, t, v, ws, p, lo => ∀ (i : Nat) (k : Node (St d)), (Node.kids v)[i]? = some k →
      LieF (typeL s (fieldP s t i).2).length (belowT d) (fun x p' lo' => LieS s d (fieldP s t i).2 x ws p' lo') (fieldP s t i).1 k ws (p + i) (lo + sumL (fszT d) ((Node.kids v).take i))

theorem sumL_cons {α : Type} (f : α → Nat) (x : α) (l : List α) : sumL f (x :: l) = f x + sumL f l := by
  have h : ∀ (l : List α) (b : Nat), l.foldl (fun m x => m + f x) b = b + l.foldl (fun m x => m + f x) 0 := by
    intro l
    induction l with
    | nil => intro b; rfl
    | cons y l ih =>
      intro b
      simp only [List.foldl_cons]
      rw [ih (b + f y), ih (0 + f y)]
      omega
  show List.foldl _ (0 + f x) l = _
  rw [h]
  simp [sumL]
theorem sumL_nil {α : Type} (f : α → Nat) : sumL f [] = 0 := rfl
theorem sumL_app {α : Type} (f : α → Nat) : ∀ (l m : List α), sumL f (l ++ m) = sumL f l + sumL f m
  | [], m => by simp [sumL_nil]
  | x :: l, m => by rw [List.cons_append, sumL_cons, sumL_cons, sumL_app f l m, Nat.add_assoc]
theorem sumL_take_at {α : Type} (f : α → Nat) (l : List α) (i : Nat) (x : α) (h : l[i]? = some x) : sumL f (l.take i) + f x ≤ sumL f l := by
  rw [← sumL_succ f l i x h]
  conv => rhs; rw [← List.take_append_drop (i + 1) l, sumL_app]
  omega
theorem sumL_take_all {α : Type} (f : α → Nat) (l : List α) (i : Nat) (h : l.length ≤ i) : sumL f (l.take i) = sumL f l := by rw [List.take_of_length_le h]

/-- The structs of a row, each of one type: their own words, and those behind. -/
theorem sum_words {s : Schema} {d left : Nat} {ty : Int} (l : List (St d)) (h : ∀ x ∈ l, codeT s d left ty x = 0) : sumL (wordsT d) l = (typeL s ty).length * l.length + sumL (belowT d) l := by
  induction l with
  | nil => simp [sumL_nil]
  | cons x l ih =>
    cases d with
    | zero => exact nomatch x
    | succ d =>
      have hx := (code_struct (h x (by simp))).2.2.2.2.1
      have ih := ih (fun y hy => h y (by simp [hy]))
      rw [sumL_cons, sumL_cons, ih, words_below, List.length_cons, Nat.mul_succ, show nkT (d + 1) x = (typeL s ty).length from hx]
      omega
theorem nk_code {s : Schema} {d left : Nat} {ty : Int} {x : St d} (h : codeT s d left ty x = 0) : nkT d x = (typeL s ty).length := by
  cases d with
  | zero => exact nomatch x
  | succ d => exact (code_struct h).2.2.2.2.1

theorem hasV_1 {x : BitVec 64} {nb nn nk : Nat} (h : hasV 1 x nb nn nk = true) : nb = 0 ∧ nn = 0 ∧ nk = 0 := by unfold hasV at h; simpa using h
theorem hasV_2 {x : BitVec 64} {nb nn nk : Nat} (h : hasV 2 x nb nn nk = true) : x = 0#64 ∧ nn = 0 ∧ nk = 0 ∧ nb ≤ 40 := by unfold hasV at h; simpa using h
theorem hasV_3 {x : BitVec 64} {nb nn nk : Nat} (h : hasV 3 x nb nn nk = true) : x = 0#64 ∧ nb = 0 ∧ nk = 0 ∧ nn ≤ 12 := by unfold hasV at h; simpa using h
theorem hasV_4 {x : BitVec 64} {nb nn nk : Nat} (h : hasV 4 x nb nn nk = true) : x = 0#64 ∧ nb = 0 ∧ nn = 0 ∧ nk ≤ 1 := by unfold hasV at h; simpa using h
theorem hasV_5 {x : BitVec 64} {nb nn nk : Nat} (h : hasV 5 x nb nn nk = true) : x = 0#64 ∧ nb = 0 ∧ nn = 0 ∧ nk ≤ 12 := by unfold hasV at h; simpa using h
theorem hasV_kd {kd : Int} {x : BitVec 64} {nb nn nk : Nat} (h : hasV kd x nb nn nk = true) (h1 : kd ≠ 1) (h2 : kd ≠ 2) (h3 : kd ≠ 3) : kd = 4 ∨ kd = 5 := by
  unfold hasV at h
  rw [if_neg h1, if_neg h2, if_neg h3] at h
  by_cases h4 : kd = 4
  · exact .inl h4
  · rw [if_neg h4] at h
    by_cases h5 : kd = 5
    · exact .inr h5
    · rw [if_neg h5] at h; cases h
theorem hasB_num {K : Type} {k : Node K} {kd : Int} (h : hasB kd k = true) (h1 : kd = 1) : k.bytes.size = 0 ∧ k.nums.length = 0 ∧ k.kids.length = 0 := by
  subst h1
  exact hasV_1 h
theorem hasB_bytes {K : Type} {k : Node K} {kd : Int} (h : hasB kd k = true) (h1 : kd = 2) : k.num = 0#64 ∧ k.nums.length = 0 ∧ k.kids.length = 0 ∧ k.bytes.size ≤ 40 := by
  subst h1
  exact hasV_2 h
theorem hasB_nums {K : Type} {k : Node K} {kd : Int} (h : hasB kd k = true) (h1 : kd = 3) : k.num = 0#64 ∧ k.bytes.size = 0 ∧ k.kids.length = 0 ∧ k.nums.length ≤ 12 := by
  subst h1
  exact hasV_3 h
theorem hasB_kids {K : Type} {k : Node K} {kd : Int} (h : hasB kd k = true) (h1 : kd ≠ 1) (h2 : kd ≠ 2) (h3 : kd ≠ 3) : (kd = 4 ∨ kd = 5) ∧ k.num = 0#64 ∧ k.bytes.size = 0 ∧ k.nums.length = 0 ∧ k.kids.length ≤ 12 := by
  rcases hasV_kd h h1 h2 h3 with rfl | rfl
  · obtain ⟨a, b, c, e⟩ := hasV_4 h
    exact ⟨.inl rfl, a, b, c, by omega⟩
  · obtain ⟨a, b, c, e⟩ := hasV_5 h
    exact ⟨.inr rfl, a, b, c, e⟩

theorem wordsV_len (l : List UInt8) : (wordsV l).length = (l.length + 7) / 8 := by
  rw [wordsV_length]
  unfold countV
  split <;> omega
theorem bytes_len (b : ByteArray) : b.data.toList.length = b.size := Array.length_toList

/-- What lies elsewhere does not matter: of one field, if it is so of its structs. -/
theorem lieF_step {s : Schema} {d left : Nat} {ty kd : Int} {k : Node (St d)} {ws ws' : List (BitVec 64)} {p lo : Nat} (hb : hasB kd k = true) (hx : ∀ x ∈ k.kids, codeT s d left ty x = 0)
    (ih : ∀ (x : St d) (p lo : Nat), codeT s d left ty x = 0 → LieS s d ty x ws p lo → (∀ q, (p ≤ q ∧ q < p + nkT d x) ∨ (lo ≤ q ∧ q < lo + belowT d x) → ws'[q]? = ws[q]?) → LieS s d ty x ws' p lo)
    (h : LieF (typeL s ty).length (belowT d) (fun x p' lo' => LieS s d ty x ws p' lo') kd k ws p lo) (hp : ws'[p]? = ws[p]?) (hlo : ∀ q, lo ≤ q → q < lo + fszT d k → ws'[q]? = ws[q]?) :
    LieF (typeL s ty).length (belowT d) (fun x p' lo' => LieS s d ty x ws' p' lo') kd k ws' p lo := by
  unfold LieF at h ⊢
  split
  · next h1 => rw [if_pos h1] at h; rw [hp]; exact h
  next h1 =>
  rw [if_neg h1] at h
  split
  · next h2 =>
    rw [if_pos h2] at h
    refine ⟨by unfold RefW; rw [hp]; exact h.1, fun j x hj => ?_⟩
    have hjl := (List.getElem?_eq_some_iff.1 hj).1
    rw [wordsV_len, bytes_len] at hjl
    rw [hlo _ (by omega) (by unfold fszT; omega)]
    exact h.2 j x hj
  next h2 =>
  rw [if_neg h2] at h
  split
  · next h3 =>
    rw [if_pos h3] at h
    refine ⟨by unfold RefW; rw [hp]; exact h.1, fun j x hj => ?_⟩
    have hjl := (List.getElem?_eq_some_iff.1 hj).1
    rw [hlo _ (by omega) (by unfold fszT; omega)]
    exact h.2 j x hj
  next h3 =>
  rw [if_neg h3] at h
  refine ⟨by unfold RefW; rw [hp]; exact h.1, fun j x hj => ?_⟩
  have hjl := (List.getElem?_eq_some_iff.1 hj).1
  have hcx := hx x (List.mem_of_getElem? hj)
  have hsw := sum_words (s := s) (d := d) (left := left) (ty := ty) k.kids hx
  have hbl := sumL_take_at (belowT d) k.kids j x hj
  have hfz : fszT d k = (k.bytes.size + 7) / 8 + k.nums.length + sumL (wordsT d) k.kids := rfl
  have hmul : (typeL s ty).length * j + (typeL s ty).length ≤ (typeL s ty).length * k.kids.length := by
    rw [← Nat.mul_succ]; exact Nat.mul_le_mul_left _ hjl
  have hnk := nk_code hcx
  refine ih x _ _ hcx (h.2 j x hj) (fun q hq2 => hlo q ?_ ?_)
  · rcases hq2 with hq2 | hq2 <;> omega
  · rcases hq2 with hq2 | hq2 <;> omega

/-- What lies elsewhere does not matter. -/
theorem lie_frame {s : Schema} : ∀ (d left : Nat) (t : Int) (v : St d) (ws ws' : List (BitVec 64)) (p lo : Nat), codeT s d left t v = 0 → LieS s d t v ws p lo →
    (∀ q, (p ≤ q ∧ q < p + nkT d v) ∨ (lo ≤ q ∧ q < lo + belowT d v) → ws'[q]? = ws[q]?) → LieS s d t v ws' p lo := by
  intro d
  induction d with
  | zero => intro _ _ v; exact nomatch v
  | succ d ih =>
    intro left t v ws ws' p lo hc h hq i k hk
    obtain ⟨_, _, _, _, hlen, hf⟩ := code_struct hc
    obtain ⟨hb, hx⟩ := hf i k hk
    have hi : i < (Node.kids v).length := (List.getElem?_eq_some_iff.1 hk).1
    have hle := sumL_take_at (fszT d) (Node.kids v) i k hk
    exact lieF_step hb hx (fun x p lo => ih (left - 1) _ x ws ws' p lo) (h i k hk) (hq _ (.inl ⟨by omega, by show p + i < p + (Node.kids v).length; omega⟩))
      (fun q h1 h2 => hq _ (.inr ⟨by omega, by show q < lo + sumL (fszT d) (Node.kids v); omega⟩))
theorem lieF_frame {s : Schema} {d left : Nat} {ty kd : Int} {k : Node (St d)} {ws ws' : List (BitVec 64)} {p lo : Nat} (hb : hasB kd k = true) (hx : ∀ x ∈ k.kids, codeT s d left ty x = 0)
    (h : LieF (typeL s ty).length (belowT d) (fun x p' lo' => LieS s d ty x ws p' lo') kd k ws p lo) (hp : ws'[p]? = ws[p]?) (hlo : ∀ q, lo ≤ q → q < lo + fszT d k → ws'[q]? = ws[q]?) :
    LieF (typeL s ty).length (belowT d) (fun x p' lo' => LieS s d ty x ws' p' lo') kd k ws' p lo :=
  lieF_step hb hx (fun x p lo => lie_frame d left ty x ws ws' p lo) h hp hlo
end SLies

section SLies2
open Go.RowKit

theorem lay_facts (p n : Nat) (ys ws : List (BitVec 64)) (hp : p < ws.length) (h0 : ws[p]? = some 0#64) (hn : n = 0 → ys = []) :
    (layW p n ys ws).length = ws.length + ys.length ∧ (∀ q, q < ws.length → q ≠ p → (layW p n ys ws)[q]? = ws[q]?) ∧ RefW (layW p n ys ws) p ws.length n ∧ HasW (layW p n ys ws) ws.length ys := by
  refine ⟨layW_len p n ys ws hn, ?_, ?_, ?_⟩
  · intro q hq hqp
    unfold layW
    split
    · rfl
    · rw [List.getElem?_append_left (by simpa using hq), List.getElem?_set_ne (fun e => hqp e.symm)]
  · unfold RefW layW
    split
    · exact h0
    · rw [List.getElem?_append_left (by simpa using hp), List.getElem?_set_self hp]
  · intro j x hj
    unfold layW
    split
    · next h => rw [hn h] at hj; simp at hj
    · rw [List.getElem?_append_right (by simp), List.length_set, Nat.add_sub_cancel_left]
      exact hj

/-- What building a struct comes to. -/
def BldOk (s : Schema) (d : Nat) (t : Int) (v : St d) : Prop := ∀ (ws : List (BitVec 64)) (p : Nat), p + nkT d v ≤ ws.length → (∀ q, p ≤ q → q < p + nkT d v → ws[q]? = some 0#64) →
  (bldW s d t v ws p).length = ws.length + belowT d v ∧ (∀ q, q < ws.length → ¬ (p ≤ q ∧ q < p + nkT d v) → (bldW s d t v ws p)[q]? = ws[q]?) ∧ LieS s d t v (bldW s d t v ws p) p ws.length

theorem kids_lie {s : Schema} {d left : Nat} {ty : Int} (ks : List (St d)) (hx : ∀ x ∈ ks, codeT s d left ty x = 0) (ih : ∀ x, codeT s d left ty x = 0 → BldOk s d ty x) (L : Nat) (W0 : List (BitVec 64))
    (hl : W0.length = L + (typeL s ty).length * ks.length) (hz : ∀ q, L ≤ q → q < L + (typeL s ty).length * ks.length → W0[q]? = some 0#64) : ∀ j, j ≤ ks.length →
    (foldI (fun j x w => bldW s d ty x w (L + (typeL s ty).length * j)) 0 (ks.take j) W0).length = L + (typeL s ty).length * ks.length + sumL (belowT d) (ks.take j) ∧
    (∀ q, q < L → (foldI (fun j x w => bldW s d ty x w (L + (typeL s ty).length * j)) 0 (ks.take j) W0)[q]? = W0[q]?) ∧
    (∀ q, L + (typeL s ty).length * j ≤ q → q < L + (typeL s ty).length * ks.length → (foldI (fun j x w => bldW s d ty x w (L + (typeL s ty).length * j)) 0 (ks.take j) W0)[q]? = some 0#64) ∧
    (∀ (j' : Nat) (x : St d), j' < j → ks[j']? = some x → LieS s d ty x (foldI (fun j x w => bldW s d ty x w (L + (typeL s ty).length * j)) 0 (ks.take j) W0) (L + (typeL s ty).length * j') (L + (typeL s ty).length * ks.length + sumL (belowT d) (ks.take j'))) := by
  intro j
  induction j with
  | zero =>
    intro _
    refine ⟨by simp [foldI, sumL_nil, hl], fun q _ => by simp [foldI], fun q h1 h2 => ?_, fun j' x h => absurd h (by omega)⟩
    simp only [List.take_zero, foldI]
    exact hz q (by omega) h2
  | succ j ihj =>
    intro hj
    obtain ⟨x, hxj⟩ := get_lt (l := ks) (i := j) (by omega)
    obtain ⟨h1, h2, h3, h4⟩ := ihj (by omega)
    have hcx := hx x (List.mem_of_getElem? hxj)
    have hnk := nk_code hcx
    rw [foldI_succ _ ks j x W0 hxj]
    generalize foldI (fun j x w => bldW s d ty x w (L + (typeL s ty).length * j)) 0 (ks.take j) W0 = V at *
    have hmul : (typeL s ty).length * j + (typeL s ty).length ≤ (typeL s ty).length * ks.length := by
      rw [← Nat.mul_succ]; exact Nat.mul_le_mul_left _ hj
    obtain ⟨g1, g2, g3⟩ := ih x hcx V (L + (typeL s ty).length * j) (by omega) (fun q a b => h3 q a (by omega))
    have hsu := sumL_succ (belowT d) ks j x hxj
    refine ⟨by omega, fun q hq => ?_, fun q a b => ?_, fun j' y hj' hy => ?_⟩
    · rw [g2 q (by omega) (by omega)]; exact h2 q hq
    · rw [Nat.mul_succ] at a
      rw [g2 q (by omega) (by omega)]; exact h3 q (by omega) b
    · by_cases e : j' = j
      · subst e
        obtain rfl : y = x := Option.some.inj (hy.symm.trans hxj)
        rw [h1] at g3
        exact g3
      · have hcy := hx y (List.mem_of_getElem? hy)
        have hnky := nk_code hcy
        have hmy : (typeL s ty).length * j' + (typeL s ty).length ≤ (typeL s ty).length * j := by
          rw [← Nat.mul_succ]; exact Nat.mul_le_mul_left _ (by omega)
        have hby := sumL_take_at (belowT d) (ks.take j) j' y (by rw [List.getElem?_take, if_pos (by omega)]; exact hy)
        rw [List.take_take, Nat.min_eq_left (by omega)] at hby
        refine lie_frame d left ty y V _ _ _ hcy (h4 j' y (by omega) hy) (fun q hq => g2 q ?_ ?_)
        · rcases hq with hq | hq <;> omega
        · rcases hq with hq | hq <;> omega

theorem field_lie {s : Schema} {d left : Nat} {ty kd : Int} {k : Node (St d)} (hb : hasB kd k = true) (hx : ∀ x ∈ k.kids, codeT s d left ty x = 0) (ih : ∀ x, codeT s d left ty x = 0 → BldOk s d ty x)
    (ws : List (BitVec 64)) (p : Nat) (hp : p < ws.length) (h0 : ws[p]? = some 0#64) :
    (fieldW (typeL s ty).length (bldW s d ty) kd k p ws).length = ws.length + fszT d k ∧ (∀ q, q < ws.length → q ≠ p → (fieldW (typeL s ty).length (bldW s d ty) kd k p ws)[q]? = ws[q]?) ∧
      LieF (typeL s ty).length (belowT d) (fun x p' lo' => LieS s d ty x (fieldW (typeL s ty).length (bldW s d ty) kd k p ws) p' lo') kd k (fieldW (typeL s ty).length (bldW s d ty) kd k p ws) p ws.length := by
  have hfz : fszT d k = (k.bytes.size + 7) / 8 + k.nums.length + sumL (wordsT d) k.kids := rfl
  by_cases h1 : kd = 1
  · obtain ⟨e1, e2, e3⟩ := hasB_num hb h1
    have e4 : k.kids = [] := List.eq_nil_of_length_eq_zero e3
    rw [e1, e2, e4, sumL_nil] at hfz
    unfold fieldW LieF
    rw [if_pos h1, if_pos h1]
    exact ⟨by rw [List.length_set]; omega, fun q _ hq => List.getElem?_set_ne (fun e => hq e.symm), List.getElem?_set_self hp⟩
  by_cases h2 : kd = 2
  · obtain ⟨e1, e2, e3, _⟩ := hasB_bytes hb h2
    have e4 : k.kids = [] := List.eq_nil_of_length_eq_zero e3
    rw [e2, e4, sumL_nil] at hfz
    obtain ⟨g1, g2, g3, g4⟩ := lay_facts p k.bytes.size (wordsV k.bytes.data.toList) ws hp h0 (fun e => List.eq_nil_of_length_eq_zero (by rw [wordsV_len, bytes_len, e]))
    unfold fieldW LieF
    rw [if_neg h1, if_pos h2, if_neg h1, if_pos h2]
    exact ⟨by rw [g1, wordsV_len, bytes_len]; omega, g2, g3, g4⟩
  by_cases h3 : kd = 3
  · obtain ⟨e1, e2, e3, _⟩ := hasB_nums hb h3
    have e4 : k.kids = [] := List.eq_nil_of_length_eq_zero e3
    rw [e2, e4, sumL_nil] at hfz
    obtain ⟨g1, g2, g3, g4⟩ := lay_facts p k.nums.length k.nums ws hp h0 (fun e => List.eq_nil_of_length_eq_zero e)
    unfold fieldW LieF
    rw [if_neg h1, if_neg h2, if_pos h3, if_neg h1, if_neg h2, if_pos h3]
    exact ⟨by rw [g1]; omega, g2, g3, g4⟩
  obtain ⟨_, e1, e2, e3, _⟩ := hasB_kids hb h1 h2 h3
  rw [e2, e3, sum_words k.kids hx] at hfz
  obtain ⟨g1, g2, g3, g4⟩ := lay_facts p k.kids.length (List.replicate ((typeL s ty).length * k.kids.length) 0#64) ws hp h0 (fun e => by rw [e]; simp)
  rw [List.length_replicate] at g1
  have hz : ∀ q, ws.length ≤ q → q < ws.length + (typeL s ty).length * k.kids.length → (layW p k.kids.length (List.replicate ((typeL s ty).length * k.kids.length) 0#64) ws)[q]? = some 0#64 := fun q a b => by
    have := g4 (q - ws.length) 0#64 (by rw [List.getElem?_replicate, if_pos (by omega)])
    rwa [show ws.length + (q - ws.length) = q by omega] at this
  obtain ⟨k1, k2, _, k4⟩ := kids_lie k.kids hx ih ws.length _ g1 hz k.kids.length (Nat.le_refl _)
  rw [foldI_all _ _ _ _ (Nat.le_refl _)] at k1 k2 k4
  rw [sumL_take_all _ _ _ (Nat.le_refl _)] at k1
  unfold fieldW LieF
  rw [if_neg h1, if_neg h2, if_neg h3, if_neg h1, if_neg h2, if_neg h3]
  refine ⟨by rw [k1]; omega, fun q a b => by rw [k2 q a, g2 q a b], ?_, fun j x hj => k4 j x (List.getElem?_eq_some_iff.1 hj).1 hj⟩
  unfold RefW
  rw [k2 p hp]
  exact g3

theorem bld_lie {s : Schema} : ∀ (d left : Nat) (t : Int) (v : St d), codeT s d left t v = 0 → BldOk s d t v := by
  intro d
  induction d with
  | zero => intro _ _ v; exact nomatch v
  | succ d ih =>
    intro left t v hc ws p hp hz
    obtain ⟨_, _, _, _, hlen, hf⟩ := code_struct hc
    have hI : ∀ i, i ≤ (Node.kids v).length →
        (foldI (fun i k w => fieldW (typeL s (fieldP s t i).2).length (bldW s d (fieldP s t i).2) (fieldP s t i).1 k (p + i) w) 0 ((Node.kids v).take i) ws).length = ws.length + sumL (fszT d) ((Node.kids v).take i) ∧
        (∀ q, q < ws.length → ¬ (p ≤ q ∧ q < p + i) → (foldI (fun i k w => fieldW (typeL s (fieldP s t i).2).length (bldW s d (fieldP s t i).2) (fieldP s t i).1 k (p + i) w) 0 ((Node.kids v).take i) ws)[q]? = ws[q]?) ∧
        (∀ (i' : Nat) (k : Node (St d)), i' < i → (Node.kids v)[i']? = some k → LieF (typeL s (fieldP s t i').2).length (belowT d) (fun x p' lo' => LieS s d (fieldP s t i').2 x (foldI (fun i k w => fieldW (typeL s (fieldP s t i).2).length (bldW s d (fieldP s t i).2) (fieldP s t i).1 k (p + i) w) 0 ((Node.kids v).take i) ws) p' lo') (fieldP s t i').1 k (foldI (fun i k w => fieldW (typeL s (fieldP s t i).2).length (bldW s d (fieldP s t i).2) (fieldP s t i).1 k (p + i) w) 0 ((Node.kids v).take i) ws) (p + i') (ws.length + sumL (fszT d) ((Node.kids v).take i'))) := by
      intro i
      induction i with
      | zero =>
        intro _
        exact ⟨by simp [foldI, sumL_nil], fun q _ _ => by simp [foldI], fun i' k h => absurd h (by omega)⟩
      | succ i ihi =>
        intro hi
        obtain ⟨k, hk⟩ := get_lt (l := Node.kids v) (i := i) (by omega)
        obtain ⟨hb, hx⟩ := hf i k hk
        obtain ⟨h1, h2, h3⟩ := ihi (by omega)
        have hp' : p + (Node.kids v).length ≤ ws.length := hp
        have hz' : ∀ q, p ≤ q → q < p + (Node.kids v).length → ws[q]? = some 0#64 := hz
        rw [foldI_succ _ (Node.kids v) i k ws hk]
        generalize foldI (fun i k w => fieldW (typeL s (fieldP s t i).2).length (bldW s d (fieldP s t i).2) (fieldP s t i).1 k (p + i) w) 0 ((Node.kids v).take i) ws = W at *
        obtain ⟨g1, g2, g3⟩ := field_lie hb hx (fun x hcx => ih (left - 1) _ x hcx) W (p + i) (by omega) (by rw [h2 _ (by omega) (by omega)]; exact hz' _ (by omega) (by omega))
        have hsu := sumL_succ (fszT d) (Node.kids v) i k hk
        refine ⟨by omega, fun q a b => ?_, fun i' y hi' hy => ?_⟩
        · rw [g2 q (by omega) (by omega)]; exact h2 q a (by omega)
        · by_cases e : i' = i
          · subst e
            obtain rfl : y = k := Option.some.inj (hy.symm.trans hk)
            rw [h1] at g3
            exact g3
          · obtain ⟨hby, hxy⟩ := hf i' y hy
            have hly := sumL_take_at (fszT d) ((Node.kids v).take i) i' y (by rw [List.getElem?_take, if_pos (by omega)]; exact hy)
            rw [List.take_take, Nat.min_eq_left (by omega)] at hly
            exact lieF_frame hby hxy (h3 i' y (by omega) hy) (g2 _ (by omega) (by omega)) (fun q a b => g2 q (by omega) (by omega))
    obtain ⟨h1, h2, h3⟩ := hI (Node.kids v).length (Nat.le_refl _)
    rw [foldI_all _ _ _ _ (Nat.le_refl _)] at h1 h2 h3
    rw [sumL_take_all _ _ _ (Nat.le_refl _)] at h1
    exact ⟨h1, h2, fun i k hk => h3 i k (List.getElem?_eq_some_iff.1 hk).1 hk⟩

/-- A struct's message: how long it is, its first word, and where all lies. -/
theorem build_lie {s : Schema} {d left : Nat} {t : Int} {v : St (d + 1)} (hc : codeT s (d + 1) left t v = 0) :
    (buildW s d t v).length = 1 + wordsT (d + 1) v ∧ (buildW s d t v)[0]? = some (refV ((1 + wordsT (d + 1) v : Nat) : Int) t) ∧ LieS s (d + 1) t v (buildW s d t v) 1 (1 + (Node.kids v).length) := by
  obtain ⟨h1, h2, h3⟩ := bld_lie (d + 1) left t v hc (List.replicate (1 + (Node.kids v).length) 0#64) 1 (by rw [List.length_replicate]; exact Nat.le_refl _) (fun q a b => by rw [List.getElem?_replicate, if_pos (by exact b)])
  rw [List.length_replicate] at h1 h2 h3
  have hw : wordsT (d + 1) v = (Node.kids v).length + belowT (d + 1) v := words_below (d + 1) v
  have hl : (bldW s (d + 1) t v (List.replicate (1 + (Node.kids v).length) 0#64) 1).length = 1 + wordsT (d + 1) v := by rw [h1, hw]; omega
  refine ⟨?_, ?_, ?_⟩
  · unfold buildW
    simp only [List.length_set]
    exact hl
  · unfold buildW
    simp only
    rw [List.getElem?_set_self (by rw [hl]; omega), hl]
  · unfold buildW
    simp only
    exact lie_frame (d + 1) left t v _ _ 1 _ hc h3 (fun q hq => List.getElem?_set_ne (by rcases hq with hq | hq <;> omega))
end SLies2

section SBldLen
open Go.RowKit

theorem kids_len {s : Schema} {d left : Nat} {ty : Int} (ks : List (St d)) (hx : ∀ x ∈ ks, codeT s d left ty x = 0) (ih : ∀ (x : St d) (ws : List (BitVec 64)) (p : Nat), codeT s d left ty x = 0 → (bldW s d ty x ws p).length = ws.length + belowT d x) (f : Nat → Nat) (W0 : List (BitVec 64)) :
    ∀ j, j ≤ ks.length → (foldI (fun j x w => bldW s d ty x w (f j)) 0 (ks.take j) W0).length = W0.length + sumL (belowT d) (ks.take j) := by
  intro j
  induction j with
  | zero => intro _; simp [foldI, sumL_nil]
  | succ j ihj =>
    intro hj
    obtain ⟨x, hxj⟩ := get_lt (l := ks) (i := j) (by omega)
    rw [foldI_succ _ ks j x W0 hxj, ih x _ _ (hx x (List.mem_of_getElem? hxj)), ihj (by omega), sumL_succ (belowT d) ks j x hxj]
    omega
theorem field_len_ih {s : Schema} {d left : Nat} {ty kd : Int} {k : Node (St d)} (hb : hasB kd k = true) (hx : ∀ x ∈ k.kids, codeT s d left ty x = 0) (ih : ∀ (x : St d) (ws : List (BitVec 64)) (p : Nat), codeT s d left ty x = 0 → (bldW s d ty x ws p).length = ws.length + belowT d x) (ws : List (BitVec 64)) (p : Nat) :
    (fieldW (typeL s ty).length (bldW s d ty) kd k p ws).length = ws.length + fszT d k := by
  have hfz : fszT d k = (k.bytes.size + 7) / 8 + k.nums.length + sumL (wordsT d) k.kids := rfl
  by_cases h1 : kd = 1
  · obtain ⟨e1, e2, e3⟩ := hasB_num hb h1
    have e4 : k.kids = [] := List.eq_nil_of_length_eq_zero e3
    rw [e1, e2, e4, sumL_nil] at hfz
    unfold fieldW
    rw [if_pos h1, List.length_set]
    omega
  by_cases h2 : kd = 2
  · obtain ⟨e1, e2, e3, _⟩ := hasB_bytes hb h2
    have e4 : k.kids = [] := List.eq_nil_of_length_eq_zero e3
    rw [e2, e4, sumL_nil] at hfz
    unfold fieldW
    rw [if_neg h1, if_pos h2, layW_len _ _ _ _ (fun e => List.eq_nil_of_length_eq_zero (by rw [wordsV_len, bytes_len, e])), wordsV_len, bytes_len]
    omega
  by_cases h3 : kd = 3
  · obtain ⟨e1, e2, e3, _⟩ := hasB_nums hb h3
    have e4 : k.kids = [] := List.eq_nil_of_length_eq_zero e3
    rw [e2, e4, sumL_nil] at hfz
    unfold fieldW
    rw [if_neg h1, if_neg h2, if_pos h3, layW_len _ _ _ _ (fun e => List.eq_nil_of_length_eq_zero e)]
    omega
  obtain ⟨_, e1, e2, e3, _⟩ := hasB_kids hb h1 h2 h3
  rw [e2, e3, sum_words k.kids hx] at hfz
  unfold fieldW
  rw [if_neg h1, if_neg h2, if_neg h3]
  have h4 := kids_len k.kids hx ih (fun j => ws.length + (typeL s ty).length * j) (layW p k.kids.length (List.replicate ((typeL s ty).length * k.kids.length) 0#64) ws) k.kids.length (Nat.le_refl _)
  rw [foldI_all _ _ _ _ (Nat.le_refl _), sumL_take_all _ _ _ (Nat.le_refl _), layW_len _ _ _ _ (fun e => by rw [e]; simp), List.length_replicate] at h4
  rw [h4]
  omega
theorem fields_len_ih {s : Schema} {d left : Nat} {t : Int} {ks : List (Node (St d))} (hf : ∀ (i : Nat) (k : Node (St d)), ks[i]? = some k → hasB (fieldP s t i).1 k = true ∧ ∀ x ∈ k.kids, codeT s d left (fieldP s t i).2 x = 0)
    (ih : ∀ (ty : Int) (x : St d) (ws : List (BitVec 64)) (p : Nat), codeT s d left ty x = 0 → (bldW s d ty x ws p).length = ws.length + belowT d x) (ws : List (BitVec 64)) (p : Nat) :
    ∀ i, i ≤ ks.length → (foldI (fun (i : Nat) k w => fieldW (typeL s (fieldP s t i).2).length (bldW s d (fieldP s t i).2) (fieldP s t i).1 k (p + i) w) 0 (ks.take i) ws).length = ws.length + sumL (fszT d) (ks.take i) := by
  intro i
  induction i with
  | zero => intro _; simp [foldI, sumL_nil]
  | succ i ihi =>
    intro hi
    obtain ⟨k, hk⟩ := get_lt (l := ks) (i := i) (by omega)
    obtain ⟨hb, hx⟩ := hf i k hk
    rw [foldI_succ _ ks i k ws hk, field_len_ih hb hx (ih _), ihi (by omega), sumL_succ (fszT d) ks i k hk]
    omega
theorem bld_len {s : Schema} : ∀ (d left : Nat) (t : Int) (v : St d) (ws : List (BitVec 64)) (p : Nat), codeT s d left t v = 0 → (bldW s d t v ws p).length = ws.length + belowT d v := by
  intro d
  induction d with
  | zero => intro _ _ v; exact nomatch v
  | succ d ih =>
    intro left t v ws p hc
    have hf := (code_struct hc).2.2.2.2.2
    have h := fields_len_ih hf (fun ty x ws p h => ih (left - 1) ty x ws p h) ws p (Node.kids v).length (Nat.le_refl _)
    rw [foldI_all _ _ _ _ (Nat.le_refl _), sumL_take_all _ _ _ (Nat.le_refl _)] at h
    exact h
theorem field_len {s : Schema} {d left : Nat} {ty kd : Int} {k : Node (St d)} (hb : hasB kd k = true) (hx : ∀ x ∈ k.kids, codeT s d left ty x = 0) (ws : List (BitVec 64)) (p : Nat) :
    (fieldW (typeL s ty).length (bldW s d ty) kd k p ws).length = ws.length + fszT d k := field_len_ih hb hx (fun x ws p h => bld_len d left ty x ws p h) ws p
theorem fields_len {s : Schema} {d left : Nat} {t : Int} {ks : List (Node (St d))} (hf : ∀ (i : Nat) (k : Node (St d)), ks[i]? = some k → hasB (fieldP s t i).1 k = true ∧ ∀ x ∈ k.kids, codeT s d left (fieldP s t i).2 x = 0) (ws : List (BitVec 64)) (p : Nat) :
    ∀ i, i ≤ ks.length → (foldI (fun (i : Nat) k w => fieldW (typeL s (fieldP s t i).2).length (bldW s d (fieldP s t i).2) (fieldP s t i).1 k (p + i) w) 0 (ks.take i) ws).length = ws.length + sumL (fszT d) (ks.take i) :=
  fields_len_ih hf (fun ty x ws p h => bld_len d left ty x ws p h) ws p
end SBldLen

section SLies3
open Go.RowKit

theorem ref_num (a : Int) (n : Nat) (hn : n < 4294967296) : (if n = 0 then 0#64 else refV a (n : Int)).toNat / 4294967296 = n := by
  split
  · next h => rw [h]; rfl
  · rw [refV_nat]
    have := (half_nat a).2
    omega
theorem refW_num {ws : List (BitVec 64)} {p lo lo' n n' : Nat} (h : RefW ws p lo n) (h' : RefW ws p lo' n') (hn : n < 4294967296) (hn' : n' < 4294967296) : n = n' := by
  have e := Option.some.inj (h.symm.trans h')
  have e1 := ref_num ((lo : Int) - p) n hn
  have e2 := ref_num ((lo' : Int) - p) n' hn'
  rw [e] at e1
  exact e1.symm.trans e2
theorem has_eq {ws : List (BitVec 64)} {lo : Nat} {ys ys' : List (BitVec 64)} (h : HasW ws lo ys) (h' : HasW ws lo ys') (hl : ys.length = ys'.length) : ys = ys' := by
  apply List.ext_getElem?
  intro j
  by_cases hj : j < ys.length
  · obtain ⟨x, hx⟩ := get_lt hj
    obtain ⟨x', hx'⟩ := get_lt (l := ys') (i := j) (by omega)
    rw [hx, hx', ← h j x hx, ← h' j x' hx']
  · rw [List.getElem?_eq_none (by omega), List.getElem?_eq_none (by omega)]
theorem take_ind {α : Type} (l l' : List α) (hl : l.length = l'.length) (h : ∀ (j : Nat) (x x' : α), l.take j = l'.take j → l[j]? = some x → l'[j]? = some x' → x = x') : l = l' := by
  have H : ∀ j, j ≤ l.length → l.take j = l'.take j := by
    intro j
    induction j with
    | zero => intro _; simp
    | succ j ih =>
      intro hj
      obtain ⟨x, hx⟩ := get_lt (l := l) (i := j) (by omega)
      obtain ⟨x', hx'⟩ := get_lt (l := l') (i := j) (by omega)
      have e := ih (by omega)
      rw [List.take_add_one, List.take_add_one, hx, hx', e, h j x x' e hx hx']
  have := H l.length (Nat.le_refl _)
  rwa [List.take_length, hl, List.take_length] at this
theorem node_eq {K : Type} {a b : Node K} (h1 : a.num = b.num) (h2 : a.bytes = b.bytes) (h3 : a.nums = b.nums) (h4 : a.kids = b.kids) : a = b := by
  cases a; cases b
  simp only at h1 h2 h3 h4
  subst h1 h2 h3 h4
  rfl
theorem bytes_eq {a b : ByteArray} (h : a.data.toList = b.data.toList) : a = b := by
  cases a with | mk a => cases b with | mk b =>
  simp only at h
  rw [Array.toList_inj.1 h]
theorem bytes_zero {a b : ByteArray} (ha : a.size = 0) (hb : b.size = 0) : a = b :=
  bytes_eq (by rw [List.eq_nil_of_length_eq_zero (l := a.data.toList) (by rw [bytes_len]; exact ha), List.eq_nil_of_length_eq_zero (l := b.data.toList) (by rw [bytes_len]; exact hb)])
theorem nil_eq {α : Type} {a b : List α} (ha : a.length = 0) (hb : b.length = 0) : a = b := by rw [List.eq_nil_of_length_eq_zero ha, List.eq_nil_of_length_eq_zero hb]

theorem lieF_inj {s : Schema} {d left : Nat} {ty kd : Int} {k k' : Node (St d)} {ws : List (BitVec 64)} {p lo : Nat} (hb : hasB kd k = true) (hx : ∀ x ∈ k.kids, codeT s d left ty x = 0) (hb' : hasB kd k' = true) (hx' : ∀ x ∈ k'.kids, codeT s d left ty x = 0)
    (ih : ∀ (x x' : St d) (p lo : Nat), codeT s d left ty x = 0 → codeT s d left ty x' = 0 → LieS s d ty x ws p lo → LieS s d ty x' ws p lo → x = x')
    (h : LieF (typeL s ty).length (belowT d) (fun x p' lo' => LieS s d ty x ws p' lo') kd k ws p lo) (h' : LieF (typeL s ty).length (belowT d) (fun x p' lo' => LieS s d ty x ws p' lo') kd k' ws p lo) : k = k' := by
  unfold LieF at h h'
  by_cases h1 : kd = 1
  · rw [if_pos h1] at h h'
    obtain ⟨a1, a2, a3⟩ := hasB_num hb h1
    obtain ⟨b1, b2, b3⟩ := hasB_num hb' h1
    exact node_eq (Option.some.inj (h.symm.trans h')) (bytes_zero a1 b1) (nil_eq a2 b2) (nil_eq a3 b3)
  by_cases h2 : kd = 2
  · rw [if_neg h1, if_pos h2] at h h'
    obtain ⟨a1, a2, a3, a4⟩ := hasB_bytes hb h2
    obtain ⟨b1, b2, b3, b4⟩ := hasB_bytes hb' h2
    have en := refW_num h.1 h'.1 (by omega) (by omega)
    have ew := has_eq h.2 h'.2 (by rw [wordsV_len, wordsV_len, bytes_len, bytes_len, en])
    have t1 := (words_text k.bytes.data.toList).2
    have t2 := (words_text k'.bytes.data.toList).2
    rw [bytes_len] at t1 t2
    rw [ew, en] at t1
    exact node_eq (a1.trans b1.symm) (bytes_eq (t1.symm.trans t2)) (nil_eq a2 b2) (nil_eq a3 b3)
  by_cases h3 : kd = 3
  · rw [if_neg h1, if_neg h2, if_pos h3] at h h'
    obtain ⟨a1, a2, a3, a4⟩ := hasB_nums hb h3
    obtain ⟨b1, b2, b3, b4⟩ := hasB_nums hb' h3
    have en := refW_num h.1 h'.1 (by omega) (by omega)
    exact node_eq (a1.trans b1.symm) (bytes_zero a2 b2) (has_eq h.2 h'.2 en) (nil_eq a3 b3)
  rw [if_neg h1, if_neg h2, if_neg h3] at h h'
  obtain ⟨_, a1, a2, a3, a4⟩ := hasB_kids hb h1 h2 h3
  obtain ⟨_, b1, b2, b3, b4⟩ := hasB_kids hb' h1 h2 h3
  have en := refW_num h.1 h'.1 (by omega) (by omega)
  refine node_eq (a1.trans b1.symm) (bytes_zero a2 b2) (nil_eq a3 b3) (take_ind _ _ en fun j x x' e hj hj' => ?_)
  have g := h.2 j x hj
  have g' := h'.2 j x' hj'
  rw [e, en] at g
  exact ih x x' _ _ (hx x (List.mem_of_getElem? hj)) (hx' x' (List.mem_of_getElem? hj')) g g'

theorem lie_inj {s : Schema} : ∀ (d left : Nat) (t : Int) (v v' : St d) (ws : List (BitVec 64)) (p lo : Nat), codeT s d left t v = 0 → codeT s d left t v' = 0 → LieS s d t v ws p lo → LieS s d t v' ws p lo → v = v' := by
  intro d
  induction d with
  | zero => intro _ _ v; exact nomatch v
  | succ d ih =>
    intro left t v v' ws p lo hc hc' h h'
    obtain ⟨_, a1, a2, a3, a4, hf⟩ := code_struct hc
    obtain ⟨_, b1, b2, b3, b4, hf'⟩ := code_struct hc'
    refine node_eq (K := Node (St d)) (a1.trans b1.symm) (bytes_zero a2 b2) (nil_eq a3 b3) (take_ind _ _ (a4.trans b4.symm) fun i k k' e hi hi' => ?_)
    have g := h i k hi
    have g' := h' i k' hi'
    rw [e] at g
    obtain ⟨hb, hx⟩ := hf i k hi
    obtain ⟨hb', hx'⟩ := hf' i k' hi'
    exact lieF_inj hb hx hb' hx' (fun x x' p lo => ih (left - 1) _ x x' ws p lo) g g'

theorem build_inj {s : Schema} {d left : Nat} {t : Int} {v v' : St (d + 1)} (hc : codeT s (d + 1) left t v = 0) (hc' : codeT s (d + 1) left t v' = 0) : buildW s d t v = buildW s d t v' ↔ v = v' := by
  constructor
  · intro e
    have h := (build_lie hc).2.2
    have h' := (build_lie hc').2.2
    rw [← e] at h'
    have hl : (Node.kids v).length = (Node.kids v').length := (code_struct hc).2.2.2.2.1.trans (code_struct hc').2.2.2.2.1.symm
    rw [← hl] at h'
    exact lie_inj (d + 1) left t v v' _ _ _ hc hc' h h'
  · intro e; rw [e]
end SLies3

end Go.Proofs.YtblbhlgihlgncaaDoor


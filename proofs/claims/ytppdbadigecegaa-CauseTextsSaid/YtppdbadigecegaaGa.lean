/- Words of 64 bits as Go values, and how the walk computes with them. No program in sight. -/
import Derived.WalkKit
import Derived.WalkSpells
import Derived.WalkLawsBesides
import Derived.Deep.QuietTactic
import Derived.BigQuiet
import Derived.Maps.AppendAt
set_option linter.unusedVariables false
set_option linter.unusedSimpArgs false
namespace Go.Proofs.Ytppdbadigecegaa
section SBase
open Go.RowKit

theorem hid {p : Prop} (h : p) : Hid p := h

/-- A uint64. -/
def U (x : BitVec 64) : Value := .int .u64 (x.toNat : Int)

theorem u64_wrap (n : Int) : IntKind.u64.wrap n = ((BitVec.ofInt 64 n).toNat : Int) := by
  rw [IntKind.wrap_u64, BitVec.toNat_ofInt, Int.toNat_of_nonneg (Int.emod_nonneg _ (by decide))]
  rfl

@[go_sem] theorem fold_U (n : Int) : Value.int .u64 (IntKind.u64.wrap n) = U (BitVec.ofInt 64 n) := by rw [u64_wrap]; rfl

theorem U_of (n : Int) (h0 : 0 ≤ n) (h1 : n < 18446744073709551616) : Value.int .u64 n = U (BitVec.ofInt 64 n) := by
  rw [← fold_U, IntKind.wrap_u64, Int.emod_eq_of_lt h0 h1]

@[go_sem] theorem eqGuard_U (op : BinOp) (t : TypeId) (x y : Operand) (a : BitVec 64) (v : Value) : eqGuard op t x y (U a) v = pure () := by cases op <;> rfl

theorem pureU {n : Int} {r : BitVec 64} (h : n = r.toNat) : (pure (.int .u64 n) : Sem Value) = pure (U r) := by rw [h]; rfl

theorem ofInt_self (x : BitVec 64) : BitVec.ofInt 64 (x.toNat : Int) = x := by simp
theorem wrap_self (r : BitVec 64) : IntKind.u64.wrap (r.toNat : Int) = (r.toNat : Int) := by rw [u64_wrap, ofInt_self]

section
variable (t : TypeId) (x y : BitVec 64) (c n : Int) (k : IntKind)
theorem bits_and : binOp .and t (.int .u64 c) (.int .u64 n) = pure (U (BitVec.ofInt 64 c &&& BitVec.ofInt 64 n)) := by rw [binOp_and]; exact pureU (wrap_self _)
theorem bits_or : binOp .or t (.int .u64 c) (.int .u64 n) = pure (U (BitVec.ofInt 64 c ||| BitVec.ofInt 64 n)) := by rw [binOp_or]; exact pureU (wrap_self _)
theorem bits_xor : binOp .xor t (.int .u64 c) (.int .u64 n) = pure (U (BitVec.ofInt 64 c ^^^ BitVec.ofInt 64 n)) := by rw [binOp_xor]; exact pureU (wrap_self _)
theorem bits_andNot : binOp .andNot t (.int .u64 c) (.int .u64 n) = pure (U (BitVec.ofInt 64 c &&& ~~~ BitVec.ofInt 64 n)) := by rw [binOp_andNot]; exact pureU (wrap_self _)
theorem bits_add : binOp .add t (.int .u64 c) (.int .u64 n) = pure (U (BitVec.ofInt 64 c + BitVec.ofInt 64 n)) := by
  rw [binOp_add]; exact pureU (by rw [u64_wrap, BitVec.ofInt_add])
theorem bits_sub : binOp .sub t (.int .u64 c) (.int .u64 n) = pure (U (BitVec.ofInt 64 c - BitVec.ofInt 64 n)) := by
  rw [binOp_sub]; exact pureU (by rw [u64_wrap, Int.sub_eq_add_neg, BitVec.ofInt_add, BitVec.ofInt_neg, ← BitVec.sub_eq_add_neg])
theorem bits_mul : binOp .mul t (.int .u64 c) (.int .u64 n) = pure (U (BitVec.ofInt 64 c * BitVec.ofInt 64 n)) := by
  rw [binOp_mul]; exact pureU (by rw [u64_wrap, BitVec.ofInt_mul])
@[go_sem] theorem UU_and : binOp .and t (U x) (U y) = pure (U (x &&& y)) := by have := bits_and t x.toNat y.toNat; simp only [ofInt_self] at this; exact this
@[go_sem] theorem UU_or : binOp .or t (U x) (U y) = pure (U (x ||| y)) := by have := bits_or t x.toNat y.toNat; simp only [ofInt_self] at this; exact this
@[go_sem] theorem UU_xor : binOp .xor t (U x) (U y) = pure (U (x ^^^ y)) := by have := bits_xor t x.toNat y.toNat; simp only [ofInt_self] at this; exact this
@[go_sem] theorem UU_andNot : binOp .andNot t (U x) (U y) = pure (U (x &&& ~~~ y)) := by have := bits_andNot t x.toNat y.toNat; simp only [ofInt_self] at this; exact this
@[go_sem] theorem UU_add : binOp .add t (U x) (U y) = pure (U (x + y)) := by have := bits_add t x.toNat y.toNat; simp only [ofInt_self] at this; exact this
@[go_sem] theorem UU_sub : binOp .sub t (U x) (U y) = pure (U (x - y)) := by have := bits_sub t x.toNat y.toNat; simp only [ofInt_self] at this; exact this
@[go_sem] theorem UU_mul : binOp .mul t (U x) (U y) = pure (U (x * y)) := by have := bits_mul t x.toNat y.toNat; simp only [ofInt_self] at this; exact this
@[go_sem] theorem UC_and : binOp .and t (U x) (.int .u64 c) = pure (U (x &&& BitVec.ofInt 64 c)) := by have := bits_and t x.toNat c; simp only [ofInt_self] at this; exact this
@[go_sem] theorem UC_or : binOp .or t (U x) (.int .u64 c) = pure (U (x ||| BitVec.ofInt 64 c)) := by have := bits_or t x.toNat c; simp only [ofInt_self] at this; exact this
@[go_sem] theorem UC_xor : binOp .xor t (U x) (.int .u64 c) = pure (U (x ^^^ BitVec.ofInt 64 c)) := by have := bits_xor t x.toNat c; simp only [ofInt_self] at this; exact this
@[go_sem] theorem UC_andNot : binOp .andNot t (U x) (.int .u64 c) = pure (U (x &&& ~~~ BitVec.ofInt 64 c)) := by have := bits_andNot t x.toNat c; simp only [ofInt_self] at this; exact this
@[go_sem] theorem UC_add : binOp .add t (U x) (.int .u64 c) = pure (U (x + BitVec.ofInt 64 c)) := by have := bits_add t x.toNat c; simp only [ofInt_self] at this; exact this
@[go_sem] theorem UC_sub : binOp .sub t (U x) (.int .u64 c) = pure (U (x - BitVec.ofInt 64 c)) := by have := bits_sub t x.toNat c; simp only [ofInt_self] at this; exact this
@[go_sem] theorem UC_mul : binOp .mul t (U x) (.int .u64 c) = pure (U (x * BitVec.ofInt 64 c)) := by have := bits_mul t x.toNat c; simp only [ofInt_self] at this; exact this
@[go_sem] theorem CU_and : binOp .and t (.int .u64 c) (U y) = pure (U (BitVec.ofInt 64 c &&& y)) := by have := bits_and t c y.toNat; simp only [ofInt_self] at this; exact this
@[go_sem] theorem CU_or : binOp .or t (.int .u64 c) (U y) = pure (U (BitVec.ofInt 64 c ||| y)) := by have := bits_or t c y.toNat; simp only [ofInt_self] at this; exact this
@[go_sem] theorem CU_add : binOp .add t (.int .u64 c) (U y) = pure (U (BitVec.ofInt 64 c + y)) := by have := bits_add t c y.toNat; simp only [ofInt_self] at this; exact this
@[go_sem] theorem CU_sub : binOp .sub t (.int .u64 c) (U y) = pure (U (BitVec.ofInt 64 c - y)) := by have := bits_sub t c y.toNat; simp only [ofInt_self] at this; exact this
@[go_sem] theorem CU_mul : binOp .mul t (.int .u64 c) (U y) = pure (U (BitVec.ofInt 64 c * y)) := by have := bits_mul t c y.toNat; simp only [ofInt_self] at this; exact this

theorem toNat_C (c : Int) (h0 : 0 ≤ c) (h1 : c < 18446744073709551616) : ((BitVec.ofInt 64 c).toNat : Int) = c := by rw [← u64_wrap, IntKind.wrap_u64]; omega
@[go_sem] theorem UC_rem (h0 : 0 < c) (h1 : c < 18446744073709551616) : binOp .rem t (U x) (.int .u64 c) = pure (U (x % BitVec.ofInt 64 c)) := by
  have hc : ¬ c = 0 := by omega
  unfold U
  rw [binOp_rem]
  simp only [Op.intDiv, if_neg hc]
  exact pureU (by rw [BitVec.toNat_umod, Int.natCast_emod, toNat_C c (by omega) h1, Int.tmod_eq_emod_of_nonneg (by omega)])
@[go_sem] theorem UC_quo (h0 : 0 < c) (h1 : c < 18446744073709551616) : binOp .quo t (U x) (.int .u64 c) = pure (U (x / BitVec.ofInt 64 c)) := by
  have hc : ¬ c = 0 := by omega
  unfold U
  rw [binOp_quo]
  simp only [Op.intDiv, if_neg hc]
  refine pureU ?_
  rw [BitVec.toNat_udiv, Int.natCast_ediv, toNat_C c (by omega) h1, Int.tdiv_eq_ediv_of_nonneg (by omega), IntKind.wrap_u64]
  have h2 : (x.toNat : Int) / c ≤ x.toNat := Int.ediv_le_self _ (by omega)
  have h3 : 0 ≤ (x.toNat : Int) / c := Int.ediv_nonneg (by omega) (by omega)
  have := x.isLt
  omega

theorem toNat_beq (x y : BitVec 64) : ((x.toNat : Int) == (y.toNat : Int)) = (x == y) := by
  rw [Bool.eq_iff_iff]; simp [BitVec.toNat_eq]; omega
theorem toNat_beqC (x : BitVec 64) (c : Int) (h0 : 0 ≤ c) (h1 : c < 18446744073709551616) : ((x.toNat : Int) == c) = (x == BitVec.ofInt 64 c) := by
  have e : c = ((BitVec.ofInt 64 c).toNat : Int) := by rw [← u64_wrap, IntKind.wrap_u64]; omega
  rw [← toNat_beq, ← e]
@[go_sem] theorem UU_eql : binOp .eql t (U x) (U y) = pure (.bool (x == y)) := by unfold U; rw [binOp_eql, toNat_beq]
@[go_sem] theorem UU_neq : binOp .neq t (U x) (U y) = pure (.bool (x != y)) := by unfold U; rw [binOp_neq, bne, toNat_beq]; rfl
@[go_sem] theorem UC_eql (h0 : 0 ≤ c) (h1 : c < 18446744073709551616) : binOp .eql t (U x) (.int .u64 c) = pure (.bool (x == BitVec.ofInt 64 c)) := by unfold U; rw [binOp_eql, toNat_beqC x c h0 h1]
@[go_sem] theorem UC_neq (h0 : 0 ≤ c) (h1 : c < 18446744073709551616) : binOp .neq t (U x) (.int .u64 c) = pure (.bool (x != BitVec.ofInt 64 c)) := by unfold U; rw [binOp_neq, bne, toNat_beqC x c h0 h1]; rfl

/-- A shift by n places, n not below 0. -/
theorem run_shr_U {P : Program} (w : World) (h : 0 ≤ n) : (binOp .shr t (U x) (.int k n)).run P w = .ok (U (x >>> n.toNat)) w := by
  obtain ⟨m, rfl⟩ := Int.eq_ofNat_of_zero_le h
  unfold U
  rw [binOp_shr]
  have e : ((x.toNat : Int).fdiv (2 ^ min m 64)) = ((x >>> m).toNat : Int) := by
    rw [Int.fdiv_eq_ediv_of_nonneg _ (by exact Int.le_of_lt (Int.pow_pos (by decide))), BitVec.toNat_ushiftRight, Nat.shiftRight_eq_div_pow]
    by_cases hm : m ≤ 64
    · rw [Nat.min_eq_left hm]; simp
    · rw [Nat.min_eq_right (by omega)]
      have h1 := x.isLt
      have h2 : (2:Nat) ^ 64 ≤ 2 ^ m := Nat.pow_le_pow_right (by decide) (by omega)
      rw [Nat.div_eq_of_lt (by omega)]
      have : (x.toNat : Int) < 2 ^ 64 := by omega
      rw [Int.ediv_eq_zero_of_lt (by omega) this]; rfl
  have hn : ¬ ((m : Int) < 0) := by omega
  simp [Op.shift, hn, IntKind.bits, e]
theorem run_shl_C {P : Program} (w : World) (h : 0 ≤ n) : (binOp .shl t (.int .u64 c) (.int k n)).run P w = .ok (U (BitVec.ofInt 64 c <<< n.toNat)) w := by
  obtain ⟨m, rfl⟩ := Int.eq_ofNat_of_zero_le h
  rw [binOp_shl]
  have e : Value.int .u64 (IntKind.u64.wrap (c * 2 ^ min m 64)) = U (BitVec.ofInt 64 c <<< m) := by
    rw [fold_U, BitVec.ofInt_mul]
    congr 1
    apply BitVec.eq_of_toNat_eq
    by_cases hm : m ≤ 64
    · rw [Nat.min_eq_left hm, BitVec.toNat_mul, BitVec.toNat_shiftLeft, Nat.shiftLeft_eq]
      have : (BitVec.ofInt 64 ((2:Int)^m)).toNat = 2 ^ m % 2 ^ 64 := by
        have : ((2:Int)^m) = ((2^m : Nat) : Int) := by simp
        rw [this, BitVec.ofInt_natCast, BitVec.toNat_ofNat]
      rw [this, Nat.mul_mod_mod]
    · rw [Nat.min_eq_right (by omega)]
      have h64 : BitVec.ofInt 64 ((2:Int)^64) = 0#64 := by decide
      rw [h64, BitVec.mul_zero, BitVec.toNat_shiftLeft, Nat.shiftLeft_eq]
      have : 2 ^ m = 2 ^ 64 * 2 ^ (m - 64) := by rw [← Nat.pow_add]; congr 1; omega
      rw [this, ← Nat.mul_assoc, Nat.mul_comm _ (2^64), Nat.mul_assoc, Nat.mul_mod_right]; rfl
  have hn : ¬ ((m : Int) < 0) := by omega
  simp [Op.shift, hn, IntKind.bits, e]
theorem run_shl_U {P : Program} (w : World) (h : 0 ≤ n) : (binOp .shl t (U x) (.int k n)).run P w = .ok (U (x <<< n.toNat)) w := by
  have := run_shl_C t x.toNat n k (P := P) w h
  rw [ofInt_self] at this; exact this
theorem run_shr_C {P : Program} (w : World) (h0 : 0 ≤ c) (h1 : c < 18446744073709551616) (h : 0 ≤ n) : (binOp .shr t (.int .u64 c) (.int k n)).run P w = .ok (U (BitVec.ofInt 64 c >>> n.toNat)) w := by
  rw [U_of c h0 h1]; exact run_shr_U t _ n k w h
/-- The same, the sign of the count left as a test. -/
@[go_sem] theorem if_shr_U {P : Program} (w : World) : (binOp .shr t (U x) (.int k n)).run P w = if 0 ≤ n then .ok (U (x >>> n.toNat)) w else (runtimePanic (.error "negative shift amount")).run P w := by
  by_cases h : 0 ≤ n
  · rw [if_pos h, run_shr_U t x n k w h]
  · rw [if_neg h]; unfold U; rw [binOp_shr]; unfold Op.shift; rw [if_pos (by omega)]
@[go_sem] theorem if_shl_U {P : Program} (w : World) : (binOp .shl t (U x) (.int k n)).run P w = if 0 ≤ n then .ok (U (x <<< n.toNat)) w else (runtimePanic (.error "negative shift amount")).run P w := by
  by_cases h : 0 ≤ n
  · rw [if_pos h, run_shl_U t x n k w h]
  · rw [if_neg h]; unfold U; rw [binOp_shl]; unfold Op.shift; rw [if_pos (by omega)]
/-- A shift by a word of 64 bits. -/
@[go_sem] theorem run_shr_UU {P : Program} (w : World) : (binOp .shr t (U x) (U y)).run P w = .ok (U (x >>> y.toNat)) w := by
  have := run_shr_U t x y.toNat .u64 (P := P) w (by omega)
  rw [Int.toNat_natCast] at this; exact this
@[go_sem] theorem run_shl_UU {P : Program} (w : World) : (binOp .shl t (U x) (U y)).run P w = .ok (U (x <<< y.toNat)) w := by
  have := run_shl_U t x y.toNat .u64 (P := P) w (by omega)
  rw [Int.toNat_natCast] at this; exact this
/-- The constant 1 and its kin, shifted by a word of 64 bits. -/
@[go_sem] theorem run_shl_CU {P : Program} (w : World) : (binOp .shl t (.int .u64 c) (U y)).run P w = .ok (U (BitVec.ofInt 64 c <<< y.toNat)) w := by
  have := run_shl_C t c y.toNat .u64 (P := P) w (by omega)
  rw [Int.toNat_natCast] at this; exact this
end

/-! ### A mask upon an int -/
theorem and_mask (k : Nat) (hk : k ≤ 62) (a : Int) : bits .and .i64 a ((2 ^ k - 1 : Nat) : Int) = a % (2 ^ k : Nat) := by
  show IntKind.i64.wrap ((BitVec.ofInt 64 a &&& BitVec.ofInt 64 ((2 ^ k - 1 : Nat) : Int)).toNat : Int) = _
  have h64 : 2 ^ k ≤ 2 ^ 62 := Nat.pow_le_pow_right (by decide) hk
  have hp : 0 < 2 ^ k := Nat.pow_pos (by decide)
  have e2 : (BitVec.ofInt 64 ((2 ^ k - 1 : Nat) : Int)).toNat = 2 ^ k - 1 := by
    rw [BitVec.ofInt_natCast, BitVec.toNat_ofNat, Nat.mod_eq_of_lt (by omega)]
  rw [BitVec.toNat_and, e2, Nat.and_two_pow_sub_one_eq_mod, BitVec.toNat_ofInt]
  have hd : ((2 ^ k : Nat) : Int) ∣ 18446744073709551616 := by
    have : (2 : Nat) ^ k ∣ 2 ^ 64 := Nat.pow_dvd_pow 2 (by omega)
    exact Int.natCast_dvd_natCast.2 this
  have h0 : 0 ≤ a % 18446744073709551616 := Int.emod_nonneg _ (by decide)
  have e3 : (((a % ((2 ^ 64 : Nat) : Int)).toNat % 2 ^ k : Nat) : Int) = a % (2 ^ k : Nat) := by
    rw [Int.natCast_emod]
    have : (((a % ((2 ^ 64 : Nat) : Int)).toNat : Nat) : Int) = a % 18446744073709551616 := Int.toNat_of_nonneg h0
    rw [this, Int.emod_emod_of_dvd _ hd]
  rw [e3]
  have h1 := Int.emod_nonneg a (show ((2 ^ k : Nat) : Int) ≠ 0 by omega)
  have h2 := Int.emod_lt_of_pos a (show (0 : Int) < ((2 ^ k : Nat) : Int) by omega)
  rw [IntKind.wrap_i64]
  omega
@[go_sem] theorem i64_mask1 (a : Int) : bits .and .i64 a 1 = a % 2 := by have := and_mask 1 (by decide) a; simpa using this
@[go_sem] theorem i64_mask2 (a : Int) : bits .and .i64 a 3 = a % 4 := by have := and_mask 2 (by decide) a; simpa using this
@[go_sem] theorem i64_mask3 (a : Int) : bits .and .i64 a 7 = a % 8 := by have := and_mask 3 (by decide) a; simpa using this
@[go_sem] theorem i64_mask4 (a : Int) : bits .and .i64 a 15 = a % 16 := by have := and_mask 4 (by decide) a; simpa using this
@[go_sem] theorem i64_mask5 (a : Int) : bits .and .i64 a 31 = a % 32 := by have := and_mask 5 (by decide) a; simpa using this
@[go_sem] theorem i64_mask6 (a : Int) : bits .and .i64 a 63 = a % 64 := by have := and_mask 6 (by decide) a; simpa using this
@[go_sem] theorem i64_mask7 (a : Int) : bits .and .i64 a 127 = a % 128 := by have := and_mask 7 (by decide) a; simpa using this
@[go_sem] theorem i64_mask15 (a : Int) : bits .and .i64 a 32767 = a % 32768 := by have := and_mask 15 (by decide) a; simpa using this
@[go_sem] theorem i64_mask16 (a : Int) : bits .and .i64 a 65535 = a % 65536 := by have := and_mask 16 (by decide) a; simpa using this
@[go_sem] theorem i64_mask17 (a : Int) : bits .and .i64 a 131071 = a % 131072 := by have := and_mask 17 (by decide) a; simpa using this
@[go_sem] theorem i64_mask20 (a : Int) : bits .and .i64 a 1048575 = a % 1048576 := by have := and_mask 20 (by decide) a; simpa using this
@[go_sem] theorem i64_mask30 (a : Int) : bits .and .i64 a 1073741823 = a % 1073741824 := by have := and_mask 30 (by decide) a; simpa using this
@[go_sem] theorem i64_mask31 (a : Int) : bits .and .i64 a 2147483647 = a % 2147483648 := by have := and_mask 31 (by decide) a; simpa using this
@[go_sem] theorem i64_mask32 (a : Int) : bits .and .i64 a 4294967295 = a % 4294967296 := by have := and_mask 32 (by decide) a; simpa using this

@[go_sem] theorem run_store_U {P : Program} (w : World) (a : Addr) (m : Mode) (x : BitVec 64) : (store a (U x) m).run P w = stored P w a (U x) m := run_store P w a _ m rfl
@[simp] theorem U_cells (x : BitVec 64) : (U x).cells = #[U x] := rfl
@[go_sem] theorem U_match {α : Type} (x : BitVec 64) (h1 : Array Value → α) (h2 : Value → α) : Value.cells.match_1 (fun _ => α) (U x) h1 h2 = h2 (U x) := rfl
@[simp] theorem U_one (x : BitVec 64) : (U x).oneCell' = true := rfl

/-- The slice value v has n elements of sz cells each, which read xs. -/
structure Row (w : World) (sz : Nat) (v : Value) (n : Nat) (xs : List Value) : Prop where
  len : xs.length = n * sz
  most : n ≤ maxLen
  shape : ∃ a cap, v = .slice a n cap ∧ n ≤ cap ∧ cap ≤ maxLen ∧ (a = none → cap = 0) ∧
    (0 < n → ∃ b off, a = some ⟨b, off, none⟩ ∧ b < w.heap.size ∧ ∀ j, j < n * sz → w.cell? ⟨b, off + j, none⟩ = xs[j]?)

theorem Row.nil (w : World) (sz : Nat) : Row w sz (.slice none 0 0) 0 [] := ⟨by simp, Nat.zero_le _, none, 0, rfl, Nat.le_refl _, Nat.zero_le _, fun _ => rfl, fun h => absurd h (by decide)⟩

theorem Row.below {w w' : World} {B sz n : Nat} {v : Value} {xs : List Value} (h : Row w sz v n xs) (hb : Below B w w') (hB : w.heap.size ≤ B) : Row w' sz v n xs := by
  obtain ⟨h1, h2, a, cap, e, hc, hm, hn, h3⟩ := h
  refine ⟨h1, h2, a, cap, e, hc, hm, hn, fun h0 => ?_⟩
  obtain ⟨b, off, ha, hlt, hcell⟩ := h3 h0
  exact ⟨b, off, ha, Nat.lt_of_lt_of_le hlt hb.size, fun j hj => by rw [hb.cell (p := ⟨b, off + j, none⟩) (Nat.lt_of_lt_of_le hlt hB)]; exact hcell j hj⟩

theorem Row.drewN {w : World} {sz n k : Nat} {v : Value} {xs : List Value} (h : Row w sz v n xs) : Row (w.drewN k) sz v n xs := ⟨h.len, h.most, h.shape⟩

theorem Row.of_owns {w : World} {base : Nat} {e : TypeId} {sz n : Nat} {v : Value} {xs : List Value} (h : w.ownsRow base e sz v n xs) : Row w sz v n xs := by
  refine ⟨h.1, ?_, ?_⟩
  · rcases h.2 with ⟨_, h0⟩ | ⟨g, cap, cur, _, _, _, h1, h2, _⟩ <;> omega
  · rcases h.2 with ⟨rfl, rfl⟩ | ⟨g, cap, cur, hv, hb, hg, h1, h2, hs, ht⟩
    · exact ⟨none, 0, rfl, Nat.le_refl _, Nat.zero_le _, fun _ => rfl, fun h => absurd h (by decide)⟩
    · subst hv
      refine ⟨some ⟨g, 0, none⟩, cap, rfl, h1, h2, (fun h => by cases h), fun _ => ⟨g, 0, rfl, ?_, fun j hj => ?_⟩⟩
      · rcases Nat.lt_or_ge g w.heap.size with hl | hl
        · exact hl
        · rw [Array.getElem?_eq_none hl] at hg; cases hg
      · have := h.cellAt j hj
        simpa using this

/-- A row, its header and its cells. -/
theorem Row.open {w : World} {sz : Nat} {v : Value} {n : Nat} {xs : List Value} (h : Row w sz v n xs) :
    ∃ a cap, v = .slice a n cap ∧ n ≤ cap ∧ cap ≤ maxLen ∧ (0 < n → ∃ b off, a = some ⟨b, off, none⟩ ∧ b < w.heap.size ∧ ∀ j, j < n * sz → w.cell? ⟨b, off + j, none⟩ = xs[j]?) := by
  obtain ⟨a, cap, h1, h2, h3, _, h4⟩ := h.shape
  exact ⟨a, cap, h1, h2, h3, h4⟩

/-- A row that is not empty. -/
theorem Row.cons {w : World} {sz : Nat} {v : Value} {n : Nat} {xs : List Value} (h : Row w sz v n xs) (h0 : 0 < n) :
    ∃ b off cap, v = .slice (some ⟨b, off, none⟩) n cap ∧ n ≤ cap ∧ cap ≤ maxLen ∧ b < w.heap.size ∧ ∀ j, j < n * sz → w.cell? ⟨b, off + j, none⟩ = xs[j]? := by
  obtain ⟨a, cap, rfl, h2, h3, _, h4⟩ := h.shape
  obtain ⟨b, off, rfl, h5, h6⟩ := h4 h0
  exact ⟨b, off, cap, rfl, h2, h3, h5, h6⟩

theorem Row.cells {w : World} {sz b off n cap m : Nat} {xs : List Value} (h : Row w sz (.slice (some ⟨b, off, none⟩) n cap) m xs) (h0 : 0 < m) : b < w.heap.size ∧ ∀ j, j < m * sz → w.cell? ⟨b, off + j, none⟩ = xs[j]? := by
  obtain ⟨b', off', cap', e, _, _, hlt, hcell⟩ := h.cons h0
  injection e with e1 e2 e3
  injection e1 with e4
  injection e4 with e5 e6
  subst e5 e6
  exact ⟨hlt, hcell⟩

theorem Row.cut {w : World} {sz : Nat} {a : Option Addr} {cap n : Nat} {xs : List Value} (h : Row w sz (.slice a n cap) n xs) (k : Nat) (hk : k ≤ n) : Row w sz (.slice a k cap) k (xs.take (k * sz)) := by
  have hmul : k * sz ≤ n * sz := Nat.mul_le_mul_right _ hk
  refine ⟨by rw [List.length_take, h.len]; omega, Nat.le_trans hk h.most, ?_⟩
  obtain ⟨a', cap', e, h2, h3, hn, h4⟩ := h.shape
  simp only [Value.slice.injEq] at e
  obtain ⟨rfl, _, rfl⟩ := e
  refine ⟨a, cap, rfl, by omega, h3, hn, fun h0 => ?_⟩
  obtain ⟨b, off, ha, hlt, hcell⟩ := h4 (by omega)
  exact ⟨b, off, ha, hlt, fun j hj => by rw [hcell j (by omega), List.getElem?_take, if_pos hj]⟩

/-- It returns a value of which P holds, and what was there stays. -/
def Gives (w : World) (P : Value → World → Prop) : Ending → World → Prop := fun e w' => ∃ v, e = .returned v ∧ Below w.heap.size w w' ∧ P v w'

theorem below_drewN (B : Nat) (w : World) (n : Nat) : Below B w (w.drewN n) := ⟨rfl, rfl, rfl, Nat.le_refl _, fun _ _ => rfl⟩

/-- A box that was laid ahead of a call, behind it. -/
theorem box_kept {w w1 : World} {cs : Array Value} {T : TypeId} (hb : Below (w.alloc (.cells cs T)).heap.size (w.alloc (.cells cs T)) w1) :
    Below w.heap.size w w1 ∧ ∀ j, w1.cell? ⟨w.heap.size, j, none⟩ = cs[j]? := by
  refine ⟨((Below.refl _ _).alloc (Nat.le_refl _) _).trans (hb.mono (by simp)), fun j => ?_⟩
  rw [hb.cell (p := ⟨w.heap.size, j, none⟩) (by simp)]
  have : (w.alloc (.cells cs T)).heap[w.heap.size]? = some (.cells cs T) := by show (w.heap.push _)[w.heap.size]? = _; simp
  simp only [World.cell?, this]
  rfl
end SBase

section SBs2
open Go.RowKit

/-- A byte. -/
def Y (b : UInt8) : Value := .int .u8 (b.toNat : Int)
/-- A word's lowest byte. -/
def by8 (x : BitVec 64) : UInt8 := UInt8.ofNat x.toNat

section
variable {P : Program} (w : World)
@[go_sem] theorem run_convert_U8 (src dst : TypeId) (x : BitVec 64) (hs : (P.underlying src).isSome = true) (hd : P.underlying dst = some (.int .u8)) :
    (convert src dst (U x)).run P w = .ok (.int .u8 ((by8 x).toNat : Int)) w := by
  obtain ⟨d, hd'⟩ := Option.isSome_iff_exists.mp hs
  have e : IntKind.u8.wrap (x.toNat : Int) = ((by8 x).toNat : Int) := by
    rw [IntKind.wrap_u8]
    unfold by8
    rw [UInt8.toNat_ofNat']
    omega
  simp [convert, U, run_underlying hd', run_underlying hd, Conv.intToInt, e]
@[go_sem] theorem run_convert_U64 (src dst : TypeId) (x : BitVec 64) (hs : (P.underlying src).isSome = true) (hd : P.underlying dst = some (.int .u64)) :
    (convert src dst (U x)).run P w = .ok (U x) w := by
  obtain ⟨d, hd'⟩ := Option.isSome_iff_exists.mp hs
  have e : IntKind.u64.wrap (x.toNat : Int) = (x.toNat : Int) := wrap_self x
  simp [convert, U, run_underlying hd', run_underlying hd, Conv.intToInt, e]
theorem i64_toInt (x : BitVec 64) : IntKind.i64.wrap (x.toNat : Int) = x.toInt := by
  rw [IntKind.wrap_i64, BitVec.toInt_eq_toNat_cond]
  have := x.isLt
  split <;> omega
@[go_sem] theorem run_convert_UI (src dst : TypeId) (x : BitVec 64) (hs : (P.underlying src).isSome = true) (hd : P.underlying dst = some (.int .i64)) :
    (convert src dst (U x)).run P w = .ok (.int .i64 x.toInt) w := by
  obtain ⟨d, hd'⟩ := Option.isSome_iff_exists.mp hs
  simp [convert, U, run_underlying hd', run_underlying hd, Conv.intToInt, i64_toInt]
end
end SBs2

section SBitsV
open Go.RowKit

def mayB (at' n : Int) : Bool := decide (1 ≤ n ∧ n ≤ 64 ∧ 0 ≤ at' ∧ at' ≤ 64 - n)

def allV (n : Int) : BitVec 64 := BitVec.allOnes 64 >>> (64 - n).toNat

def setV (w : BitVec 64) (at' n : Int) (v : BitVec 64) : BitVec 64 := (w &&& ~~~ (allV n <<< at'.toNat)) ||| (v <<< at'.toNat)

def setOk (at' n : Int) (v : BitVec 64) : Bool := mayB at' n && (v &&& ~~~ allV n) == 0#64

def getV (w : BitVec 64) (at' n : Int) : BitVec 64 := if mayB at' n then w >>> at'.toNat &&& allV n else 0#64

def countV (n : Int) : Int := if n ≤ 0 then 0 else (n + 7) / 8

/-- The word of bytes, lowest first: the first n of them. -/
def leV (l : List UInt8) : Nat → BitVec 64
  | 0 => 0#64
  | k + 1 => leV l k ||| (BitVec.ofNat 64 (l.getD k 0).toNat <<< (8 * k))

def wordV (l : List UInt8) (i : Int) : BitVec 64 :=
  if i < 0 ∨ countV l.length ≤ i then 0#64 else leV (l.drop (8 * i.toNat)) (min 8 (l.length - 8 * i.toNat))

theorem wordV_in (l : List UInt8) (i : Nat) (k : Nat) (hi : (i : Int) < countV l.length) (hk : k = min 8 (l.length - 8 * i)) : wordV l i = leV (l.drop (8 * i)) k := by
  unfold wordV
  rw [if_neg (by omega), hk, Int.toNat_natCast]

theorem leV_succ (s : ByteArray) (k : Nat) (h : k < s.size) : leV s.data.toList (k + 1) = leV s.data.toList k ||| (BitVec.ofNat 64 s[k].toNat <<< (8 * k)) := by
  rw [leV]
  congr 3
  rw [List.getD_eq_getElem?_getD, List.getElem?_eq_getElem (by simpa using h), Option.getD_some]
  rfl

def wordsV (l : List UInt8) : List (BitVec 64) := (List.range (countV l.length).toNat).map fun (i : Nat) => wordV l i

/-- A row that is filled from its head: k of its c places. -/
def fillV (f : Nat → Value) (z : Value) (c k : Nat) : List Value := (List.range c).map fun i => if i < k then f i else z

theorem fillV_zero (f : Nat → Value) (z : Value) (c : Nat) : fillV f z c 0 = List.replicate c z := by
  apply List.ext_getElem? ; intro i
  by_cases h : i < c <;> simp [fillV, h]

theorem fillV_succ (f : Nat → Value) (z : Value) (c k : Nat) : (fillV f z c k).set k (f k) = fillV f z c (k + 1) := by
  apply List.ext_getElem? ; intro i
  rw [List.getElem?_set]
  by_cases h : k = i
  · subst h; by_cases h2 : k < c <;> simp [fillV, h2]
  · rw [if_neg h]
    by_cases h2 : i < c
    · by_cases h3 : i < k
      · simp [fillV, h2, h3, Nat.lt_succ_of_lt h3]
      · have : ¬ i < k + 1 := by omega
        simp [fillV, h2, h3, this]
    · simp [fillV, h2]

theorem fillV_all (f : Nat → Value) (z : Value) (c : Nat) : fillV f z c c = (List.range c).map f := by
  apply List.ext_getElem? ; intro i
  by_cases h : i < c <;> simp [fillV, h]

theorem wordsV_fill (l : List UInt8) (c : Nat) (h : countV l.length = c) : (wordsV l).map U = fillV (fun i => U (wordV l (i : Int))) (.int .u64 0) c c := by
  rw [fillV_all, wordsV, h]; simp [Function.comp_def]

theorem owns_has {w : World} {base : Nat} {e : TypeId} {size g n cap : Nat} {xs : List Value} (h : w.ownsRow base e size (.slice (some ⟨g, 0, none⟩) n cap) n xs) (j : Nat) (hj : j < n * size) :
    ∃ u, w.cell? ⟨g, j, none⟩ = some u := by
  rw [h.cellAt j hj, List.getElem?_eq_getElem (by rw [h.1]; exact hj)]; exact ⟨_, rfl⟩

theorem count_le (n : Int) (h : 0 ≤ n) : 0 ≤ countV n ∧ 8 * countV n ≤ n + 7 := by unfold countV; split <;> omega

theorem ret_i64 {a b : Int} (h : a = b) : Ending.returned (.int .i64 a) = .returned (.int .i64 b) := by rw [h]

theorem ret_U {a b : BitVec 64} (h : a = b) : Ending.returned (U a) = .returned (U b) := by rw [h]

theorem ret_true {b : Bool} (h : b = true) : Ending.returned (.bool b) = .returned (.bool true) := by rw [h]

/-- The bytes of words, lowest first. -/
def byteAt (ws : List (BitVec 64)) (i : Nat) : UInt8 := by8 (ws.getD (i / 8) 0#64 >>> (8 * (i % 8)))

def bytesV (ws : List (BitVec 64)) : List UInt8 := (List.range (8 * ws.length)).map (byteAt ws)

def textOk (ws : List (BitVec 64)) (n : Int) : Bool := decide (0 ≤ n) && decide ((ws.length : Int) = countV n) && ((bytesV ws).drop n.toNat).all (· == 0)

def textV (ws : List (BitVec 64)) (n : Int) : List UInt8 := if textOk ws n then (bytesV ws).take n.toNat else []

/-- The first k bytes, as cells. -/
def byteCells (ws : List (BitVec 64)) (k : Nat) : List Value := (List.range k).map fun i => Y (byteAt ws i)

theorem byteCells_succ (ws : List (BitVec 64)) (k : Nat) : byteCells ws k ++ [Y (byteAt ws k)] = byteCells ws (k + 1) := by
  simp [byteCells, List.range_succ]

theorem bytesV_length (ws : List (BitVec 64)) : (bytesV ws).length = 8 * ws.length := by simp [bytesV]

theorem bytesV_get (ws : List (BitVec 64)) (i : Nat) (h : i < 8 * ws.length) : (bytesV ws)[i]? = some (byteAt ws i) := by simp [bytesV, h]

theorem textOk_of (ws : List (BitVec 64)) (m : Nat) (hc : (ws.length : Int) = countV m) (h : ∀ t, m ≤ t → t < 8 * ws.length → byteAt ws t = 0) : textOk ws m = true ∧ textV ws m = (bytesV ws).take m := by
  have : textOk ws m = true := by
    unfold textOk
    rw [Int.toNat_natCast]
    simp only [Bool.and_eq_true, decide_eq_true_eq, List.all_eq_true]
    refine ⟨⟨by omega, hc⟩, fun x hx => ?_⟩
    obtain ⟨t, ht⟩ := List.mem_iff_getElem?.1 hx
    rw [List.getElem?_drop] at ht
    have hlt : m + t < 8 * ws.length := by
      have := (List.getElem?_eq_some_iff.1 ht).1
      rwa [bytesV_length] at this
    rw [bytesV_get ws _ hlt, h _ (by omega) hlt] at ht
    cases ht; rfl
  exact ⟨this, by unfold textV; rw [if_pos this, Int.toNat_natCast]⟩

theorem textOk_not (ws : List (BitVec 64)) (m t : Nat) (h1 : m ≤ t) (h2 : t < 8 * ws.length) (h : byteAt ws t ≠ 0) : textOk ws m = false ∧ textV ws m = [] := by
  have : textOk ws m = false := by
    unfold textOk
    rw [Int.toNat_natCast, Bool.and_eq_false_iff]
    right
    rw [List.all_eq_false]
    refine ⟨byteAt ws t, ?_, by simpa using h⟩
    rw [List.mem_iff_getElem?]
    exact ⟨t - m, by rw [List.getElem?_drop, show m + (t - m) = t by omega, bytesV_get ws t h2]⟩
  exact ⟨this, by unfold textV; rw [if_neg (by rw [this]; decide)]⟩

theorem run_back {P : Program} {w : World} (src dst e : TypeId) (B cap : Nat) (ws : List (BitVec 64)) (m : Nat) (hs : P.underlying src = some (.slice e)) (he : P.underlying e = some (.int .u8)) (hd : P.underlying dst = some .string) (hm : m ≤ 8 * ws.length)
    (hc : ∀ j, j < m → w.cell? ⟨B, j, none⟩ = some (Y (byteAt ws j))) :
    (convert src dst (.slice (some ⟨B, 0, none⟩) m cap)).run P w = .ok (.string ⟨((bytesV ws).take m).toArray⟩) w := by
  have hl : ((bytesV ws).take m).length = m := by rw [List.length_take, bytesV_length]; omega
  have := run_convert_bytes_back (P := P) w src dst e ⟨B, 0, none⟩ cap ((bytesV ws).take m) hs he hd (fun j hj => by
    rw [hl] at hj
    have h1 : ((bytesV ws).take m)[j]? = some (byteAt ws j) := by rw [List.getElem?_take, if_pos hj, bytesV_get ws j (by omega)]
    have h2 := List.getElem_of_getElem? h1
    rw [h2.2]
    have : (⟨B, 0, none⟩ : Addr).add j = ⟨B, j, none⟩ := by rw [Addr.add_lit]; simp
    rw [this]
    exact hc j (by omega))
  rwa [hl] at this

theorem byteCells_at {w : World} {base : Nat} {e : TypeId} {B cap : Nat} {ws : List (BitVec 64)} (h : w.ownsRow base e 1 (.slice (some ⟨B, 0, none⟩) (8 * ws.length) cap) (8 * ws.length) (byteCells ws (8 * ws.length))) (j : Nat) (hj : j < 8 * ws.length) :
    w.cell? ⟨B, j, none⟩ = some (Y (byteAt ws j)) := by
  rw [h.cellAt j (by omega)]; simp [byteCells, hj]

theorem ret_text {a b : List UInt8} {x y : Bool} (h1 : a = b) (h2 : x = y) : Ending.returned (.tuple #[.string ⟨a.toArray⟩, .bool x]) = .returned (.tuple #[.string ⟨b.toArray⟩, .bool y]) := by rw [h1, h2]

theorem countV_nat (m : Nat) : ∃ c : Nat, countV m = c ∧ 8 * c ≤ m + 7 := by
  unfold countV; split
  · exact ⟨0, rfl, by omega⟩
  · exact ⟨(m + 7) / 8, by omega, by omega⟩

/-- Behind an append to what the call owns. -/
theorem own_below {B : Nat} {w wr w2 : World} {o : Obj} {e : TypeId} {size n : Nat} {v : Value} {xs : List Value} (hb : Below B w wr) (hB : B ≤ wr.heap.size) (hown : wr.ownsRow B e size v n xs) (hg : (wr.alloc o).grownBy w2 v.ownBlock) : Below B w w2 :=
  (hb.alloc hB o).grown hg (by simp; omega) (fun k h => ((hown.lt k h).1))

theorem mapU_take (ws : List (BitVec 64)) (k : Nat) (h : k < ws.length) : (ws.map U).take k ++ [U (ws.getD k 0#64)] = (ws.map U).take (k + 1) := by
  rw [List.take_succ_eq_append_getElem (by simpa using h)]
  simp [List.getD, h]

theorem below_cell {w w' : World} (hb : Below w.heap.size w w') {b o : Nat} {v : Value} (h : w.cell? ⟨b, o, none⟩ = some v) : w'.cell? ⟨b, o, none⟩ = some v := by
  rw [hb.cell (p := ⟨b, o, none⟩) (World.block_lt_of_cell? w ⟨b, o, none⟩ (by rw [h]))]; exact h

theorem owns_below {w w' : World} {B : Nat} {e : TypeId} {sz n : Nat} {v : Value} {xs : List Value} (h : w.ownsRow B e sz v n xs) (hb : Below w.heap.size w w') : w'.ownsRow B e sz v n xs := by
  refine ⟨h.1, ?_⟩
  rcases h.2 with h0 | ⟨g, cap, cur, hv, hg, hh, r⟩
  · exact .inl h0
  · have hlt : g < w.heap.size := by
      rcases Nat.lt_or_ge g w.heap.size with hl | hl
      · exact hl
      · rw [Array.getElem?_eq_none hl] at hh; cases hh
    exact .inr ⟨g, cap, cur, hv, hg, by rw [hb.block g hlt]; exact hh, r⟩

theorem tmod_bd (m k : Int) (h : 0 < k) : -k < m.tmod k ∧ m.tmod k < k := by
  refine ⟨?_, Int.tmod_lt_of_pos m h⟩
  rcases Int.le_total 0 m with h1 | h1
  · have := Int.tmod_nonneg k h1; omega
  · have h2 := Int.tmod_lt_of_pos (-m) h
    rw [Int.neg_tmod] at h2; omega
end SBitsV

section SSch
open Go.RowKit

abbrev Fields := List (Int × Int)
abbrev Schema := List Fields

def fldC (p : Int × Int) : List Value := [.int .i64 p.1, .int .i64 p.2]
def fldsC : Fields → List Value
  | [] => []
  | p :: l => .int .i64 p.1 :: .int .i64 p.2 :: fldsC l

theorem fldsC_length (l : Fields) : (fldsC l).length = l.length * 2 := by
  induction l with
  | nil => rfl
  | cons p l ih => simp [fldsC, ih]; omega

theorem fldsC_get : ∀ (l : Fields) (i : Nat) (p : Int × Int), l[i]? = some p → (fldsC l)[i * 2]? = some (.int .i64 p.1) ∧ (fldsC l)[i * 2 + 1]? = some (.int .i64 p.2)
  | [], i, p, h => by simp at h
  | q :: l, 0, p, h => by
    simp at h; subst h; exact ⟨rfl, rfl⟩
  | q :: l, i + 1, p, h => by
    have := fldsC_get l i p (by simpa using h)
    rw [show (i + 1) * 2 = i * 2 + 1 + 1 by omega]
    simpa [fldsC] using this

theorem fldsC_append (l m : Fields) : fldsC (l ++ m) = fldsC l ++ fldsC m := by
  induction l with
  | nil => rfl
  | cons p l ih => simp [fldsC, ih]

/-- The slice value v is the row of fields l. -/
def Flds (w : World) (v : Value) (l : Fields) : Prop := Row w 2 v l.length (fldsC l)

theorem Flds.below {w w' : World} {B : Nat} {v : Value} {l : Fields} (h : Flds w v l) (hb : Below B w w') (hB : w.heap.size ≤ B) : Flds w' v l := Row.below h hb hB

theorem Flds.shape {w : World} {v : Value} {l : Fields} (h : Flds w v l) : ∃ a cap, v = .slice a l.length cap ∧ l.length ≤ cap ∧ cap ≤ maxLen := by
  obtain ⟨a, cap, h1, h2, h3, _⟩ := Row.open h
  exact ⟨a, cap, h1, h2, h3⟩

theorem Flds.at_ {w : World} {a : Option Addr} {n cap : Nat} {l : Fields} {i : Nat} {p : Int × Int} (h : Flds w (.slice a n cap) l) (hi : l[i]? = some p) :
    ∃ b off, a = some ⟨b, off, none⟩ ∧ b < w.heap.size ∧ w.cell? ⟨b, off + i * 2, none⟩ = some (.int .i64 p.1) ∧ w.cell? ⟨b, off + i * 2 + 1, none⟩ = some (.int .i64 p.2) := by
  have hlt : i < l.length := (List.getElem?_eq_some_iff.1 hi).1
  obtain ⟨b, off, cap', e, h1, h2, h3, hc⟩ := Row.cons h (by omega)
  obtain ⟨g1, g2⟩ := fldsC_get l i p hi
  simp only [Value.slice.injEq] at e
  exact ⟨b, off, e.1, h3, by rw [hc (i * 2) (by omega)]; exact g1, by rw [Nat.add_assoc, hc (i * 2 + 1) (by omega)]; exact g2⟩

/-- The slice value v is the schema s. -/
structure Sch (w : World) (v : Value) (s : Schema) : Prop where
  ex : ∃ vs : List Value, Row w 1 v s.length vs ∧ ∀ (i : Nat) (l : Fields), s[i]? = some l → ∃ u, vs[i]? = some u ∧ Flds w u l

theorem Sch.below {w w' : World} {B : Nat} {v : Value} {s : Schema} (h : Sch w v s) (hb : Below B w w') (hB : w.heap.size ≤ B) : Sch w' v s := by
  obtain ⟨vs, h1, h2⟩ := h.ex
  exact ⟨vs, h1.below hb hB, fun i l hl => by
    obtain ⟨u, h3, h4⟩ := h2 i l hl
    exact ⟨u, h3, h4.below hb hB⟩⟩

theorem Sch.drewN {w : World} {k : Nat} {v : Value} {s : Schema} (h : Sch w v s) : Sch (w.drewN k) v s := h.below (B := w.heap.size) ⟨rfl, rfl, rfl, Nat.le_refl _, fun _ _ => rfl⟩ (Nat.le_refl _)

theorem Sch.shape {w : World} {v : Value} {s : Schema} (h : Sch w v s) : ∃ a cap, v = .slice a s.length cap ∧ s.length ≤ cap ∧ cap ≤ maxLen ∧ s.length ≤ maxLen := by
  obtain ⟨vs, h1, _⟩ := h.ex
  obtain ⟨a, cap, h2, h3, h4, _⟩ := h1.open
  exact ⟨a, cap, h2, h3, h4, h1.most⟩

theorem Sch.at_ {w : World} {a : Option Addr} {n cap : Nat} {s : Schema} {i : Nat} {l : Fields} (h : Sch w (.slice a n cap) s) (hi : s[i]? = some l) :
    ∃ b off a2 cap2, a = some ⟨b, off, none⟩ ∧ b < w.heap.size ∧ w.cell? ⟨b, off + i, none⟩ = some (.slice a2 l.length cap2) ∧ Flds w (.slice a2 l.length cap2) l ∧ l.length ≤ maxLen ∧ l.length ≤ cap2 ∧ cap2 ≤ maxLen := by
  obtain ⟨vs, h1, h2⟩ := h.ex
  have hlt : i < s.length := (List.getElem?_eq_some_iff.1 hi).1
  obtain ⟨b, off, cap', e, h5, h6, h3, hc⟩ := h1.cons (by omega)
  obtain ⟨u, hu, hf⟩ := h2 i l hi
  obtain ⟨a2, cap2, rfl, g1, g2⟩ := hf.shape
  simp only [Value.slice.injEq] at e
  exact ⟨b, off, a2, cap2, e.1, h3, by rw [hc i (by omega)]; exact hu, hf, Row.most hf, g1, g2⟩

theorem Sch.nil (w : World) : Sch w (.slice none 0 0) [] := ⟨[], Row.nil w 1, fun i l h => by simp at h⟩

/-! ### What is right -/
def fOk (n : Nat) (p : Int × Int) : Bool := decide (1 ≤ p.1 ∧ p.1 ≤ 5 ∧ 0 ≤ p.2 ∧ p.2 < n ∧ (p.1 < 4 → p.2 = 0))
def lOk (n : Nat) (l : Fields) : Bool := decide (1 ≤ l.length ∧ l.length ≤ 6) && l.all (fOk n)
def rightB (s : Schema) : Bool := decide (1 ≤ s.length ∧ s.length ≤ 8) && s.all (lOk s.length)

theorem all_take_succ {α : Type} (l : List α) (f : α → Bool) (i : Nat) (p : α) (h : l[i]? = some p) : (l.take (i + 1)).all f = ((l.take i).all f && f p) := by
  rw [List.take_add_one, h]; simp
theorem all_of_take {α : Type} (l : List α) (f : α → Bool) (i : Nat) (h : l.length ≤ i) : (l.take i).all f = l.all f := by rw [List.take_of_length_le h]
theorem all_false_of {α : Type} (l : List α) (f : α → Bool) (i : Nat) (p : α) (h : l[i]? = some p) (hp : f p = false) : l.all f = false := by
  rw [List.all_eq_false]
  exact ⟨p, List.mem_of_getElem? h, by simp [hp]⟩
theorem all_take_false {α : Type} (l : List α) (f : α → Bool) (i : Nat) (h : (l.take i).all f = false) : l.all f = false := by
  rw [List.all_eq_false] at *
  obtain ⟨x, hx, hf⟩ := h
  exact ⟨x, List.mem_of_mem_take hx, hf⟩
theorem get_lt {α : Type} {l : List α} {i : Nat} (h : i < l.length) : ∃ p, l[i]? = some p := ⟨_, List.getElem?_eq_getElem h⟩
end SSch

section SSchV
open Go.RowKit

theorem via {w w1 w2 : World} (h : Below w.heap.size w w1) (k : Below w1.heap.size w1 w2) : Below w.heap.size w w2 := h.trans (k.mono h.size)
theorem below_alloc (w : World) (o : Obj) : Below w.heap.size w (w.alloc o) := (Below.refl _ w).alloc (Nat.le_refl _) o
theorem Sch.alloc {w : World} {v : Value} {s : Schema} (h : Sch w v s) (o : Obj) : Sch (w.alloc o) v s := h.below (below_alloc w o) (Nat.le_refl _)
theorem Flds.alloc {w : World} {v : Value} {s : Fields} (h : Flds w v s) (o : Obj) : Flds (w.alloc o) v s := h.below (below_alloc w o) (Nat.le_refl _)


/-- A type's fields; none, if there is no such type. -/
def typeL (s : Schema) (t : Int) : Fields := if 0 ≤ t ∧ t < s.length then s.getD t.toNat [] else []
/-- A field; the zero one, if there is none. -/
def fieldP (s : Schema) (t i : Int) : Int × Int := if 0 ≤ i ∧ i < (typeL s t).length then (typeL s t).getD i.toNat (0, 0) else (0, 0)

theorem typeL_at {s : Schema} {k : Nat} {l : Fields} (h : s[k]? = some l) : typeL s k = l := by
  have hlt := (List.getElem?_eq_some_iff.1 h).1
  rw [typeL, if_pos (by omega), Int.toNat_natCast, List.getD_eq_getElem?_getD, h]; rfl
theorem typeL_out {s : Schema} {t : Int} (h : ¬ (0 ≤ t ∧ t < s.length)) : typeL s t = [] := by rw [typeL, if_neg h]
theorem fieldP_at {s : Schema} {t : Int} {i : Nat} {p : Int × Int} (h : (typeL s t)[i]? = some p) : fieldP s t i = p := by
  have hlt := (List.getElem?_eq_some_iff.1 h).1
  rw [fieldP, if_pos (by omega), Int.toNat_natCast, List.getD_eq_getElem?_getD, h]; rfl
theorem fieldP_out {s : Schema} {t i : Int} (h : ¬ (0 ≤ i ∧ i < (typeL s t).length)) : fieldP s t i = (0, 0) := by rw [fieldP, if_neg h]
end SSchV

section SOwn
open Go.RowKit

/-- Block g holds cells of type t. -/
def BlkT (w : World) (g : Nat) (t : TypeId) : Prop := ∃ cs fr, w.heap[g]? = some (.cells cs t fr)

theorem BlkT.lt {w : World} {g : Nat} {t : TypeId} (h : BlkT w g t) : g < w.heap.size := by
  obtain ⟨cs, fr, h⟩ := h
  rcases Nat.lt_or_ge g w.heap.size with hlt | hge
  · exact hlt
  · rw [Array.getElem?_eq_none hge] at h; cases h
theorem BlkT.new (w : World) (cs : Array Value) (t : TypeId) : BlkT (w.alloc (.cells cs t)) w.heap.size t := ⟨cs, (0, 0), by show (w.heap.push _)[w.heap.size]? = _; simp⟩
theorem BlkT.keep {w w' : World} {g : Nat} {t : TypeId} (h : BlkT w g t) (hk : w'.heap[g]? = w.heap[g]?) : BlkT w' g t := by
  obtain ⟨cs, fr, h⟩ := h
  exact ⟨cs, fr, hk.trans h⟩
theorem BlkT.below {w w' : World} {B g : Nat} {t : TypeId} (h : BlkT w g t) (hb : Below B w w') (hB : g < B) : BlkT w' g t := h.keep (hb.block g hB)
theorem BlkT.setCell {w : World} {g : Nat} {t : TypeId} (h : BlkT w g t) (p : Addr) (u : Value) : BlkT (w.setCell p u) g t := by
  obtain ⟨cs, fr, h⟩ := h
  by_cases hp : p.block = g
  · subst hp
    unfold BlkT World.setCell
    simp only [Array.getElem?_modify, h, if_true]
    exact ⟨_, _, rfl⟩
  · refine ⟨cs, fr, ?_⟩
    rw [Below.heap_setCell w p u g (Ne.symm hp)]; exact h

theorem own_keep {w w' : World} {base : Nat} {e : TypeId} {sz n : Nat} {v : Value} {xs : List Value} (h : w.ownsRow base e sz v n xs) (hk : ∀ g, v.ownBlock = some g → w'.heap[g]? = w.heap[g]?) : w'.ownsRow base e sz v n xs := by
  refine ⟨h.1, ?_⟩
  rcases h.2 with h0 | ⟨g, cap, cur, rfl, hb, hg, rest⟩
  · exact .inl h0
  · exact .inr ⟨g, cap, cur, rfl, hb, (hk g rfl).trans hg, rest⟩

theorem own_blk {w : World} {base : Nat} {e : TypeId} {sz n : Nat} {v : Value} {xs : List Value} (h : w.ownsRow base e sz v n xs) {g : Nat} (hg : v.ownBlock = some g) : BlkT w g e ∧ base ≤ g := by
  rcases h.2 with ⟨rfl, _⟩ | ⟨g', cap, cur, rfl, hb, hh, _⟩
  · simp [Value.ownBlock] at hg
  · have : g' = g := by simpa [Value.ownBlock] using hg
    subst this
    exact ⟨⟨cur, _, hh⟩, hb⟩

theorem blk_ne {w : World} {g g' : Nat} {t t' : TypeId} (h : BlkT w g t) (h' : BlkT w g' t') (hne : t ≠ t') : g ≠ g' := by
  rintro rfl
  obtain ⟨cs, fr, h⟩ := h
  obtain ⟨cs', fr', h'⟩ := h'
  rw [h] at h'
  injection h' with h'
  injection h' with _ ht
  exact hne ht

/-- A row is kept where only a block of another type has turned. -/
theorem own_grown {w w' : World} {base : Nat} {e t : TypeId} {sz n : Nat} {v : Value} {xs : List Value} {row : Option Nat} (h : w.ownsRow base e sz v n xs) (hg : w.grownBy w' row) (hr : ∀ g, row = some g → BlkT w g t) (hne : t ≠ e) : w'.ownsRow base e sz v n xs :=
  own_keep h fun g hgv => hg.block g (own_blk h hgv).1.lt fun e' => blk_ne (hr g e'.symm) (own_blk h hgv).1 hne rfl
theorem own_row {w w' : World} {base base2 : Nat} {e t : TypeId} {sz n sz2 n2 : Nat} {v v2 : Value} {xs xs2 : List Value} (h : w.ownsRow base e sz v n xs) (h2 : w.ownsRow base2 t sz2 v2 n2 xs2) (hg : w.grownBy w' v2.ownBlock) (hne : t ≠ e) : w'.ownsRow base e sz v n xs :=
  own_grown h hg (fun g hgv => (own_blk h2 hgv).1) hne
theorem own_beneath {w w' : World} {base : Nat} {e : TypeId} {sz n : Nat} {v : Value} {xs : List Value} (h : w.ownsRow base e sz v n xs) (hb : Below w.heap.size w w') : w'.ownsRow base e sz v n xs :=
  own_keep h fun g hgv => hb.block g (own_blk h hgv).1.lt
theorem blk_grown {w w' : World} {g : Nat} {t t' : TypeId} {row : Option Nat} (h : BlkT w g t) (hg : w.grownBy w' row) (hr : ∀ g', row = some g' → BlkT w g' t') (hne : t' ≠ t) : BlkT w' g t :=
  h.keep (hg.block g h.lt fun e' => blk_ne (hr g e'.symm) h hne rfl)
theorem grown_more {a w w' : World} {row row2 : Option Nat} (h : a.grownBy w row) (k : w.grownBy w' row2) (hr : ∀ g, row2 = some g → a.heap.size ≤ g ∨ row = some g) : a.grownBy w' row := by
  refine ⟨k.os.trans h.os, k.tape.trans h.tape, k.output.trans h.output, Nat.le_trans h.size k.size, fun i hi hne => ?_⟩
  rw [k.block i (Nat.lt_of_lt_of_le hi h.size) fun e => ?_]
  · exact h.block i hi hne
  · rcases hr i e.symm with h1 | h1
    · omega
    · exact hne h1.symm
theorem grown_below {a w w' : World} {row : Option Nat} (h : a.grownBy w row) (k : Below w.heap.size w w') : a.grownBy w' row :=
  ⟨k.os.trans h.os, k.tape.trans h.tape, k.output.trans h.output, Nat.le_trans h.size k.size, fun i hi hne => (k.block i (Nat.lt_of_lt_of_le hi h.size)).trans (h.block i hi hne)⟩
theorem grown_set {a w : World} {row : Option Nat} (h : a.grownBy w row) {p : Addr} (hp : a.heap.size ≤ p.block ∨ row = some p.block) (u : Value) : a.grownBy (w.setCell p u) row :=
  ⟨h.os, h.tape, h.output, by simpa [World.setCell] using h.size, fun i hi hne => (Below.heap_setCell w p u i (by
    rintro rfl
    rcases hp with hp | hp
    · omega
    · exact hne hp.symm)).trans (h.block i hi hne)⟩
theorem own_base {w : World} {base base2 : Nat} {e : TypeId} {sz n : Nat} {v : Value} {xs : List Value} (h : w.ownsRow base e sz v n xs) (hb : base2 ≤ base) : w.ownsRow base2 e sz v n xs := by
  refine ⟨h.1, ?_⟩
  rcases h.2 with h0 | ⟨g, cap, cur, rfl, hb1, rest⟩
  · exact .inl h0
  · exact .inr ⟨g, cap, cur, rfl, Nat.le_trans hb hb1, rest⟩
theorem own_shape {w : World} {base : Nat} {e : TypeId} {sz n : Nat} {v : Value} {xs : List Value} (h : w.ownsRow base e sz v n xs) : ∃ a c, v = .slice a n c := by
  rcases h.2 with ⟨rfl, rfl⟩ | ⟨g, cap, cur, rfl, _⟩
  · exact ⟨_, _, rfl⟩
  · exact ⟨_, _, rfl⟩
theorem own_nil (w : World) (base : Nat) (e : TypeId) (sz : Nat) : w.ownsRow base e sz (.slice none 0 0) 0 [] := ⟨by simp, .inl ⟨rfl, rfl⟩⟩
/-- Below, over a row of the call's own that has grown. -/
theorem below_own {B : Nat} {w0 w w' : World} {base : Nat} {e : TypeId} {sz n : Nat} {v : Value} {xs : List Value} (hb : Below B w0 w) (h : w.ownsRow base e sz v n xs) (hB : B ≤ base) (hg : w.grownBy w' v.ownBlock) (hs : B ≤ w.heap.size) : Below B w0 w' :=
  hb.grown hg hs fun g hgv => Nat.le_trans hB (own_blk h hgv).2
end SOwn

end Go.Proofs.Ytppdbadigecegaa


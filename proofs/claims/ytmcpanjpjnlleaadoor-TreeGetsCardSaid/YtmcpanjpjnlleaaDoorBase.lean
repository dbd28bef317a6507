/- Words of 64 bits as Go values, and how the walk computes with them. No program in sight. -/
import Derived.WalkKit
import Derived.WalkSpells
import Derived.WalkLawsBesides
set_option linter.unusedVariables false
namespace Go.Proofs.YtmcpanjpjnlleaaDoor
open Go.RowKit

theorem hid {p : Prop} (h : p) : Hid p := h

/-- A uint64. -/
def U (x : BitVec 64) : Value := .int .u64 (x.toNat : Int)

theorem u64_wrap (n : Int) : IntKind.u64.wrap n = ((BitVec.ofInt 64 n).toNat : Int) := by
  rw [IntKind.wrap_u64, BitVec.toNat_ofInt, Int.toNat_of_nonneg (Int.emod_nonneg _ (by decide))]
  rfl

@[go_sem] theorem fold_U (n : Int) : Value.int .u64 (IntKind.u64.wrap n) = U (BitVec.ofInt 64 n) := by rw [u64_wrap]; rfl

theorem U_of (n : Int) (h0 : 0 ≤ n) (h1 : n < 18446744073709551616) : Value.int .u64 n = U (BitVec.ofInt 64 n) := by
  rw [← fold_U, IntKind.wrap_u64, Int.emod_eq_of_lt h0 h1]

@[go_sem] theorem eqGuard_U (op : BinOp) (t : TypeId) (x y : Operand) (a : BitVec 64) (v : Value) : eqGuard op t x y (U a) v = pure () := by cases op <;> rfl

theorem pureU {n : Int} {r : BitVec 64} (h : n = r.toNat) : (pure (.int .u64 n) : Sem Value) = pure (U r) := by rw [h]; rfl

theorem ofInt_self (x : BitVec 64) : BitVec.ofInt 64 (x.toNat : Int) = x := by simp
theorem wrap_self (r : BitVec 64) : IntKind.u64.wrap (r.toNat : Int) = (r.toNat : Int) := by rw [u64_wrap, ofInt_self]

section
variable (t : TypeId) (x y : BitVec 64) (c n : Int) (k : IntKind)
theorem bits_and : binOp .and t (.int .u64 c) (.int .u64 n) = pure (U (BitVec.ofInt 64 c &&& BitVec.ofInt 64 n)) := by rw [binOp_and]; exact pureU (wrap_self _)
theorem bits_or : binOp .or t (.int .u64 c) (.int .u64 n) = pure (U (BitVec.ofInt 64 c ||| BitVec.ofInt 64 n)) := by rw [binOp_or]; exact pureU (wrap_self _)
theorem bits_xor : binOp .xor t (.int .u64 c) (.int .u64 n) = pure (U (BitVec.ofInt 64 c ^^^ BitVec.ofInt 64 n)) := by rw [binOp_xor]; exact pureU (wrap_self _)
theorem bits_andNot : binOp .andNot t (.int .u64 c) (.int .u64 n) = pure (U (BitVec.ofInt 64 c &&& ~~~ BitVec.ofInt 64 n)) := by rw [binOp_andNot]; exact pureU (wrap_self _)
theorem bits_add : binOp .add t (.int .u64 c) (.int .u64 n) = pure (U (BitVec.ofInt 64 c + BitVec.ofInt 64 n)) := by
  rw [binOp_add]; exact pureU (by rw [u64_wrap, BitVec.ofInt_add])
theorem bits_sub : binOp .sub t (.int .u64 c) (.int .u64 n) = pure (U (BitVec.ofInt 64 c - BitVec.ofInt 64 n)) := by
  rw [binOp_sub]; exact pureU (by rw [u64_wrap, Int.sub_eq_add_neg, BitVec.ofInt_add, BitVec.ofInt_neg, ← BitVec.sub_eq_add_neg])
theorem bits_mul : binOp .mul t (.int .u64 c) (.int .u64 n) = pure (U (BitVec.ofInt 64 c * BitVec.ofInt 64 n)) := by
  rw [binOp_mul]; exact pureU (by rw [u64_wrap, BitVec.ofInt_mul])
@[go_sem] theorem UU_and : binOp .and t (U x) (U y) = pure (U (x &&& y)) := by have := bits_and t x.toNat y.toNat; simp only [ofInt_self] at this; exact this
@[go_sem] theorem UU_or : binOp .or t (U x) (U y) = pure (U (x ||| y)) := by have := bits_or t x.toNat y.toNat; simp only [ofInt_self] at this; exact this
@[go_sem] theorem UU_xor : binOp .xor t (U x) (U y) = pure (U (x ^^^ y)) := by have := bits_xor t x.toNat y.toNat; simp only [ofInt_self] at this; exact this
@[go_sem] theorem UU_andNot : binOp .andNot t (U x) (U y) = pure (U (x &&& ~~~ y)) := by have := bits_andNot t x.toNat y.toNat; simp only [ofInt_self] at this; exact this
@[go_sem] theorem UU_add : binOp .add t (U x) (U y) = pure (U (x + y)) := by have := bits_add t x.toNat y.toNat; simp only [ofInt_self] at this; exact this
@[go_sem] theorem UU_sub : binOp .sub t (U x) (U y) = pure (U (x - y)) := by have := bits_sub t x.toNat y.toNat; simp only [ofInt_self] at this; exact this
@[go_sem] theorem UU_mul : binOp .mul t (U x) (U y) = pure (U (x * y)) := by have := bits_mul t x.toNat y.toNat; simp only [ofInt_self] at this; exact this
@[go_sem] theorem UC_and : binOp .and t (U x) (.int .u64 c) = pure (U (x &&& BitVec.ofInt 64 c)) := by have := bits_and t x.toNat c; simp only [ofInt_self] at this; exact this
@[go_sem] theorem UC_or : binOp .or t (U x) (.int .u64 c) = pure (U (x ||| BitVec.ofInt 64 c)) := by have := bits_or t x.toNat c; simp only [ofInt_self] at this; exact this
@[go_sem] theorem UC_xor : binOp .xor t (U x) (.int .u64 c) = pure (U (x ^^^ BitVec.ofInt 64 c)) := by have := bits_xor t x.toNat c; simp only [ofInt_self] at this; exact this
@[go_sem] theorem UC_andNot : binOp .andNot t (U x) (.int .u64 c) = pure (U (x &&& ~~~ BitVec.ofInt 64 c)) := by have := bits_andNot t x.toNat c; simp only [ofInt_self] at this; exact this
@[go_sem] theorem UC_add : binOp .add t (U x) (.int .u64 c) = pure (U (x + BitVec.ofInt 64 c)) := by have := bits_add t x.toNat c; simp only [ofInt_self] at this; exact this
@[go_sem] theorem UC_sub : binOp .sub t (U x) (.int .u64 c) = pure (U (x - BitVec.ofInt 64 c)) := by have := bits_sub t x.toNat c; simp only [ofInt_self] at this; exact this
@[go_sem] theorem UC_mul : binOp .mul t (U x) (.int .u64 c) = pure (U (x * BitVec.ofInt 64 c)) := by have := bits_mul t x.toNat c; simp only [ofInt_self] at this; exact this
@[go_sem] theorem CU_and : binOp .and t (.int .u64 c) (U y) = pure (U (BitVec.ofInt 64 c &&& y)) := by have := bits_and t c y.toNat; simp only [ofInt_self] at this; exact this
@[go_sem] theorem CU_or : binOp .or t (.int .u64 c) (U y) = pure (U (BitVec.ofInt 64 c ||| y)) := by have := bits_or t c y.toNat; simp only [ofInt_self] at this; exact this
@[go_sem] theorem CU_add : binOp .add t (.int .u64 c) (U y) = pure (U (BitVec.ofInt 64 c + y)) := by have := bits_add t c y.toNat; simp only [ofInt_self] at this; exact this
@[go_sem] theorem CU_sub : binOp .sub t (.int .u64 c) (U y) = pure (U (BitVec.ofInt 64 c - y)) := by have := bits_sub t c y.toNat; simp only [ofInt_self] at this; exact this
@[go_sem] theorem CU_mul : binOp .mul t (.int .u64 c) (U y) = pure (U (BitVec.ofInt 64 c * y)) := by have := bits_mul t c y.toNat; simp only [ofInt_self] at this; exact this

theorem toNat_C (c : Int) (h0 : 0 ≤ c) (h1 : c < 18446744073709551616) : ((BitVec.ofInt 64 c).toNat : Int) = c := by rw [← u64_wrap, IntKind.wrap_u64]; omega
@[go_sem] theorem UC_rem (h0 : 0 < c) (h1 : c < 18446744073709551616) : binOp .rem t (U x) (.int .u64 c) = pure (U (x % BitVec.ofInt 64 c)) := by
  have hc : ¬ c = 0 := by omega
  unfold U
  rw [binOp_rem]
  simp only [Op.intDiv, if_neg hc]
  exact pureU (by rw [BitVec.toNat_umod, Int.natCast_emod, toNat_C c (by omega) h1, Int.tmod_eq_emod_of_nonneg (by omega)])
@[go_sem] theorem UC_quo (h0 : 0 < c) (h1 : c < 18446744073709551616) : binOp .quo t (U x) (.int .u64 c) = pure (U (x / BitVec.ofInt 64 c)) := by
  have hc : ¬ c = 0 := by omega
  unfold U
  rw [binOp_quo]
  simp only [Op.intDiv, if_neg hc]
  refine pureU ?_
  rw [BitVec.toNat_udiv, Int.natCast_ediv, toNat_C c (by omega) h1, Int.tdiv_eq_ediv_of_nonneg (by omega), IntKind.wrap_u64]
  have h2 : (x.toNat : Int) / c ≤ x.toNat := Int.ediv_le_self _ (by omega)
  have h3 : 0 ≤ (x.toNat : Int) / c := Int.ediv_nonneg (by omega) (by omega)
  have := x.isLt
  omega

theorem toNat_beq (x y : BitVec 64) : ((x.toNat : Int) == (y.toNat : Int)) = (x == y) := by
  rw [Bool.eq_iff_iff]; simp [BitVec.toNat_eq]; omega
theorem toNat_beqC (x : BitVec 64) (c : Int) (h0 : 0 ≤ c) (h1 : c < 18446744073709551616) : ((x.toNat : Int) == c) = (x == BitVec.ofInt 64 c) := by
  have e : c = ((BitVec.ofInt 64 c).toNat : Int) := by rw [← u64_wrap, IntKind.wrap_u64]; omega
  rw [← toNat_beq, ← e]
@[go_sem] theorem UU_eql : binOp .eql t (U x) (U y) = pure (.bool (x == y)) := by unfold U; rw [binOp_eql, toNat_beq]
@[go_sem] theorem UU_neq : binOp .neq t (U x) (U y) = pure (.bool (x != y)) := by unfold U; rw [binOp_neq, bne, toNat_beq]; rfl
@[go_sem] theorem UC_eql (h0 : 0 ≤ c) (h1 : c < 18446744073709551616) : binOp .eql t (U x) (.int .u64 c) = pure (.bool (x == BitVec.ofInt 64 c)) := by unfold U; rw [binOp_eql, toNat_beqC x c h0 h1]
@[go_sem] theorem UC_neq (h0 : 0 ≤ c) (h1 : c < 18446744073709551616) : binOp .neq t (U x) (.int .u64 c) = pure (.bool (x != BitVec.ofInt 64 c)) := by unfold U; rw [binOp_neq, bne, toNat_beqC x c h0 h1]; rfl

/-- A shift by n places, n not below 0. -/
theorem run_shr_U {P : Program} (w : World) (h : 0 ≤ n) : (binOp .shr t (U x) (.int k n)).run P w = .ok (U (x >>> n.toNat)) w := by
  obtain ⟨m, rfl⟩ := Int.eq_ofNat_of_zero_le h
  unfold U
  rw [binOp_shr]
  have e : ((x.toNat : Int).fdiv (2 ^ min m 64)) = ((x >>> m).toNat : Int) := by
    rw [Int.fdiv_eq_ediv_of_nonneg _ (by exact Int.le_of_lt (Int.pow_pos (by decide))), BitVec.toNat_ushiftRight, Nat.shiftRight_eq_div_pow]
    by_cases hm : m ≤ 64
    · rw [Nat.min_eq_left hm]; simp
    · rw [Nat.min_eq_right (by omega)]
      have h1 := x.isLt
      have h2 : (2:Nat) ^ 64 ≤ 2 ^ m := Nat.pow_le_pow_right (by decide) (by omega)
      rw [Nat.div_eq_of_lt (by omega)]
      have : (x.toNat : Int) < 2 ^ 64 := by omega
      rw [Int.ediv_eq_zero_of_lt (by omega) this]; rfl
  have hn : ¬ ((m : Int) < 0) := by omega
  simp [Op.shift, hn, IntKind.bits, e]
theorem run_shl_C {P : Program} (w : World) (h : 0 ≤ n) : (binOp .shl t (.int .u64 c) (.int k n)).run P w = .ok (U (BitVec.ofInt 64 c <<< n.toNat)) w := by
  obtain ⟨m, rfl⟩ := Int.eq_ofNat_of_zero_le h
  rw [binOp_shl]
  have e : Value.int .u64 (IntKind.u64.wrap (c * 2 ^ min m 64)) = U (BitVec.ofInt 64 c <<< m) := by
    rw [fold_U, BitVec.ofInt_mul]
    congr 1
    apply BitVec.eq_of_toNat_eq
    by_cases hm : m ≤ 64
    · rw [Nat.min_eq_left hm, BitVec.toNat_mul, BitVec.toNat_shiftLeft, Nat.shiftLeft_eq]
      have : (BitVec.ofInt 64 ((2:Int)^m)).toNat = 2 ^ m % 2 ^ 64 := by
        have : ((2:Int)^m) = ((2^m : Nat) : Int) := by simp
        rw [this, BitVec.ofInt_natCast, BitVec.toNat_ofNat]
      rw [this, Nat.mul_mod_mod]
    · rw [Nat.min_eq_right (by omega)]
      have h64 : BitVec.ofInt 64 ((2:Int)^64) = 0#64 := by decide
      rw [h64, BitVec.mul_zero, BitVec.toNat_shiftLeft, Nat.shiftLeft_eq]
      have : 2 ^ m = 2 ^ 64 * 2 ^ (m - 64) := by rw [← Nat.pow_add]; congr 1; omega
      rw [this, ← Nat.mul_assoc, Nat.mul_comm _ (2^64), Nat.mul_assoc, Nat.mul_mod_right]; rfl
  have hn : ¬ ((m : Int) < 0) := by omega
  simp [Op.shift, hn, IntKind.bits, e]
theorem run_shl_U {P : Program} (w : World) (h : 0 ≤ n) : (binOp .shl t (U x) (.int k n)).run P w = .ok (U (x <<< n.toNat)) w := by
  have := run_shl_C t x.toNat n k (P := P) w h
  rw [ofInt_self] at this; exact this
theorem run_shr_C {P : Program} (w : World) (h0 : 0 ≤ c) (h1 : c < 18446744073709551616) (h : 0 ≤ n) : (binOp .shr t (.int .u64 c) (.int k n)).run P w = .ok (U (BitVec.ofInt 64 c >>> n.toNat)) w := by
  rw [U_of c h0 h1]; exact run_shr_U t _ n k w h
/-- The same, the sign of the count left as a test. -/
@[go_sem] theorem if_shr_U {P : Program} (w : World) : (binOp .shr t (U x) (.int k n)).run P w = if 0 ≤ n then .ok (U (x >>> n.toNat)) w else (runtimePanic (.error "negative shift amount")).run P w := by
  by_cases h : 0 ≤ n
  · rw [if_pos h, run_shr_U t x n k w h]
  · rw [if_neg h]; unfold U; rw [binOp_shr]; unfold Op.shift; rw [if_pos (by omega)]
@[go_sem] theorem if_shl_U {P : Program} (w : World) : (binOp .shl t (U x) (.int k n)).run P w = if 0 ≤ n then .ok (U (x <<< n.toNat)) w else (runtimePanic (.error "negative shift amount")).run P w := by
  by_cases h : 0 ≤ n
  · rw [if_pos h, run_shl_U t x n k w h]
  · rw [if_neg h]; unfold U; rw [binOp_shl]; unfold Op.shift; rw [if_pos (by omega)]
/-- A shift by a word of 64 bits. -/
@[go_sem] theorem run_shr_UU {P : Program} (w : World) : (binOp .shr t (U x) (U y)).run P w = .ok (U (x >>> y.toNat)) w := by
  have := run_shr_U t x y.toNat .u64 (P := P) w (by omega)
  rw [Int.toNat_natCast] at this; exact this
@[go_sem] theorem run_shl_UU {P : Program} (w : World) : (binOp .shl t (U x) (U y)).run P w = .ok (U (x <<< y.toNat)) w := by
  have := run_shl_U t x y.toNat .u64 (P := P) w (by omega)
  rw [Int.toNat_natCast] at this; exact this
/-- The constant 1 and its kin, shifted by a word of 64 bits. -/
@[go_sem] theorem run_shl_CU {P : Program} (w : World) : (binOp .shl t (.int .u64 c) (U y)).run P w = .ok (U (BitVec.ofInt 64 c <<< y.toNat)) w := by
  have := run_shl_C t c y.toNat .u64 (P := P) w (by omega)
  rw [Int.toNat_natCast] at this; exact this
end

/-! ### A mask upon an int -/
theorem and_mask (k : Nat) (hk : k ≤ 62) (a : Int) : bits .and .i64 a ((2 ^ k - 1 : Nat) : Int) = a % (2 ^ k : Nat) := by
  show IntKind.i64.wrap ((BitVec.ofInt 64 a &&& BitVec.ofInt 64 ((2 ^ k - 1 : Nat) : Int)).toNat : Int) = _
  have h64 : 2 ^ k ≤ 2 ^ 62 := Nat.pow_le_pow_right (by decide) hk
  have hp : 0 < 2 ^ k := Nat.pow_pos (by decide)
  have e2 : (BitVec.ofInt 64 ((2 ^ k - 1 : Nat) : Int)).toNat = 2 ^ k - 1 := by
    rw [BitVec.ofInt_natCast, BitVec.toNat_ofNat, Nat.mod_eq_of_lt (by omega)]
  rw [BitVec.toNat_and, e2, Nat.and_two_pow_sub_one_eq_mod, BitVec.toNat_ofInt]
  have hd : ((2 ^ k : Nat) : Int) ∣ 18446744073709551616 := by
    have : (2 : Nat) ^ k ∣ 2 ^ 64 := Nat.pow_dvd_pow 2 (by omega)
    exact Int.natCast_dvd_natCast.2 this
  have h0 : 0 ≤ a % 18446744073709551616 := Int.emod_nonneg _ (by decide)
  have e3 : (((a % ((2 ^ 64 : Nat) : Int)).toNat % 2 ^ k : Nat) : Int) = a % (2 ^ k : Nat) := by
    rw [Int.natCast_emod]
    have : (((a % ((2 ^ 64 : Nat) : Int)).toNat : Nat) : Int) = a % 18446744073709551616 := Int.toNat_of_nonneg h0
    rw [this, Int.emod_emod_of_dvd _ hd]
  rw [e3]
  have h1 := Int.emod_nonneg a (show ((2 ^ k : Nat) : Int) ≠ 0 by omega)
  have h2 := Int.emod_lt_of_pos a (show (0 : Int) < ((2 ^ k : Nat) : Int) by omega)
  rw [IntKind.wrap_i64]
  omega
@[go_sem] theorem i64_mask1 (a : Int) : bits .and .i64 a 1 = a % 2 := by have := and_mask 1 (by decide) a; simpa using this
@[go_sem] theorem i64_mask2 (a : Int) : bits .and .i64 a 3 = a % 4 := by have := and_mask 2 (by decide) a; simpa using this
@[go_sem] theorem i64_mask3 (a : Int) : bits .and .i64 a 7 = a % 8 := by have := and_mask 3 (by decide) a; simpa using this
@[go_sem] theorem i64_mask4 (a : Int) : bits .and .i64 a 15 = a % 16 := by have := and_mask 4 (by decide) a; simpa using this
@[go_sem] theorem i64_mask5 (a : Int) : bits .and .i64 a 31 = a % 32 := by have := and_mask 5 (by decide) a; simpa using this
@[go_sem] theorem i64_mask6 (a : Int) : bits .and .i64 a 63 = a % 64 := by have := and_mask 6 (by decide) a; simpa using this
@[go_sem] theorem i64_mask7 (a : Int) : bits .and .i64 a 127 = a % 128 := by have := and_mask 7 (by decide) a; simpa using this
@[go_sem] theorem i64_mask15 (a : Int) : bits .and .i64 a 32767 = a % 32768 := by have := and_mask 15 (by decide) a; simpa using this
@[go_sem] theorem i64_mask16 (a : Int) : bits .and .i64 a 65535 = a % 65536 := by have := and_mask 16 (by decide) a; simpa using this
@[go_sem] theorem i64_mask17 (a : Int) : bits .and .i64 a 131071 = a % 131072 := by have := and_mask 17 (by decide) a; simpa using this
@[go_sem] theorem i64_mask20 (a : Int) : bits .and .i64 a 1048575 = a % 1048576 := by have := and_mask 20 (by decide) a; simpa using this
@[go_sem] theorem i64_mask30 (a : Int) : bits .and .i64 a 1073741823 = a % 1073741824 := by have := and_mask 30 (by decide) a; simpa using this
@[go_sem] theorem i64_mask31 (a : Int) : bits .and .i64 a 2147483647 = a % 2147483648 := by have := and_mask 31 (by decide) a; simpa using this
@[go_sem] theorem i64_mask32 (a : Int) : bits .and .i64 a 4294967295 = a % 4294967296 := by have := and_mask 32 (by decide) a; simpa using this

@[go_sem] theorem run_store_U {P : Program} (w : World) (a : Addr) (m : Mode) (x : BitVec 64) : (store a (U x) m).run P w = stored P w a (U x) m := run_store P w a _ m rfl
@[simp] theorem U_cells (x : BitVec 64) : (U x).cells = #[U x] := rfl
@[go_sem] theorem U_match {α : Type} (x : BitVec 64) (h1 : Array Value → α) (h2 : Value → α) : Value.cells.match_1 (fun _ => α) (U x) h1 h2 = h2 (U x) := rfl
@[simp] theorem U_one (x : BitVec 64) : (U x).oneCell' = true := rfl

/-- The slice value v has n elements of sz cells each, which read xs. -/
structure Row (w : World) (sz : Nat) (v : Value) (n : Nat) (xs : List Value) : Prop where
  len : xs.length = n * sz
  most : n ≤ maxLen
  shape : ∃ a cap, v = .slice a n cap ∧ n ≤ cap ∧ cap ≤ maxLen ∧ (a = none → cap = 0) ∧
    (0 < n → ∃ b off, a = some ⟨b, off, none⟩ ∧ b < w.heap.size ∧ ∀ j, j < n * sz → w.cell? ⟨b, off + j, none⟩ = xs[j]?)

theorem Row.nil (w : World) (sz : Nat) : Row w sz (.slice none 0 0) 0 [] := ⟨by simp, Nat.zero_le _, none, 0, rfl, Nat.le_refl _, Nat.zero_le _, fun _ => rfl, fun h => absurd h (by decide)⟩

theorem Row.below {w w' : World} {B sz n : Nat} {v : Value} {xs : List Value} (h : Row w sz v n xs) (hb : Below B w w') (hB : w.heap.size ≤ B) : Row w' sz v n xs := by
  obtain ⟨h1, h2, a, cap, e, hc, hm, hn, h3⟩ := h
  refine ⟨h1, h2, a, cap, e, hc, hm, hn, fun h0 => ?_⟩
  obtain ⟨b, off, ha, hlt, hcell⟩ := h3 h0
  exact ⟨b, off, ha, Nat.lt_of_lt_of_le hlt hb.size, fun j hj => by rw [hb.cell (p := ⟨b, off + j, none⟩) (Nat.lt_of_lt_of_le hlt hB)]; exact hcell j hj⟩

theorem Row.drewN {w : World} {sz n k : Nat} {v : Value} {xs : List Value} (h : Row w sz v n xs) : Row (w.drewN k) sz v n xs := ⟨h.len, h.most, h.shape⟩

theorem Row.of_owns {w : World} {base : Nat} {e : TypeId} {sz n : Nat} {v : Value} {xs : List Value} (h : w.ownsRow base e sz v n xs) : Row w sz v n xs := by
  refine ⟨h.1, ?_, ?_⟩
  · rcases h.2 with ⟨_, h0⟩ | ⟨g, cap, cur, _, _, _, h1, h2, _⟩ <;> omega
  · rcases h.2 with ⟨rfl, rfl⟩ | ⟨g, cap, cur, hv, hb, hg, h1, h2, hs, ht⟩
    · exact ⟨none, 0, rfl, Nat.le_refl _, Nat.zero_le _, fun _ => rfl, fun h => absurd h (by decide)⟩
    · subst hv
      refine ⟨some ⟨g, 0, none⟩, cap, rfl, h1, h2, (fun h => by cases h), fun _ => ⟨g, 0, rfl, ?_, fun j hj => ?_⟩⟩
      · rcases Nat.lt_or_ge g w.heap.size with hl | hl
        · exact hl
        · rw [Array.getElem?_eq_none hl] at hg; cases hg
      · have := h.cellAt j hj
        simpa using this

/-- A row, its header and its cells. -/
theorem Row.open {w : World} {sz : Nat} {v : Value} {n : Nat} {xs : List Value} (h : Row w sz v n xs) :
    ∃ a cap, v = .slice a n cap ∧ n ≤ cap ∧ cap ≤ maxLen ∧ (0 < n → ∃ b off, a = some ⟨b, off, none⟩ ∧ b < w.heap.size ∧ ∀ j, j < n * sz → w.cell? ⟨b, off + j, none⟩ = xs[j]?) := by
  obtain ⟨a, cap, h1, h2, h3, _, h4⟩ := h.shape
  exact ⟨a, cap, h1, h2, h3, h4⟩

/-- A row that is not empty. -/
theorem Row.cons {w : World} {sz : Nat} {v : Value} {n : Nat} {xs : List Value} (h : Row w sz v n xs) (h0 : 0 < n) :
    ∃ b off cap, v = .slice (some ⟨b, off, none⟩) n cap ∧ n ≤ cap ∧ cap ≤ maxLen ∧ b < w.heap.size ∧ ∀ j, j < n * sz → w.cell? ⟨b, off + j, none⟩ = xs[j]? := by
  obtain ⟨a, cap, rfl, h2, h3, _, h4⟩ := h.shape
  obtain ⟨b, off, rfl, h5, h6⟩ := h4 h0
  exact ⟨b, off, cap, rfl, h2, h3, h5, h6⟩

theorem Row.cells {w : World} {sz b off n cap m : Nat} {xs : List Value} (h : Row w sz (.slice (some ⟨b, off, none⟩) n cap) m xs) (h0 : 0 < m) : b < w.heap.size ∧ ∀ j, j < m * sz → w.cell? ⟨b, off + j, none⟩ = xs[j]? := by
  obtain ⟨b', off', cap', e, _, _, hlt, hcell⟩ := h.cons h0
  injection e with e1 e2 e3
  injection e1 with e4
  injection e4 with e5 e6
  subst e5 e6
  exact ⟨hlt, hcell⟩

theorem Row.cut {w : World} {sz : Nat} {a : Option Addr} {cap n : Nat} {xs : List Value} (h : Row w sz (.slice a n cap) n xs) (k : Nat) (hk : k ≤ n) : Row w sz (.slice a k cap) k (xs.take (k * sz)) := by
  have hmul : k * sz ≤ n * sz := Nat.mul_le_mul_right _ hk
  refine ⟨by rw [List.length_take, h.len]; omega, Nat.le_trans hk h.most, ?_⟩
  obtain ⟨a', cap', e, h2, h3, hn, h4⟩ := h.shape
  simp only [Value.slice.injEq] at e
  obtain ⟨rfl, _, rfl⟩ := e
  refine ⟨a, cap, rfl, by omega, h3, hn, fun h0 => ?_⟩
  obtain ⟨b, off, ha, hlt, hcell⟩ := h4 (by omega)
  exact ⟨b, off, ha, hlt, fun j hj => by rw [hcell j (by omega), List.getElem?_take, if_pos hj]⟩

/-- It returns a value of which P holds, and what was there stays. -/
def Gives (w : World) (P : Value → World → Prop) : Ending → World → Prop := fun e w' => ∃ v, e = .returned v ∧ Below w.heap.size w w' ∧ P v w'

theorem below_drewN (B : Nat) (w : World) (n : Nat) : Below B w (w.drewN n) := ⟨rfl, rfl, rfl, Nat.le_refl _, fun _ _ => rfl⟩

/-- A box that was laid ahead of a call, behind it. -/
theorem box_kept {w w1 : World} {cs : Array Value} {T : TypeId} (hb : Below (w.alloc (.cells cs T)).heap.size (w.alloc (.cells cs T)) w1) :
    Below w.heap.size w w1 ∧ ∀ j, w1.cell? ⟨w.heap.size, j, none⟩ = cs[j]? := by
  refine ⟨((Below.refl _ _).alloc (Nat.le_refl _) _).trans (hb.mono (by simp)), fun j => ?_⟩
  rw [hb.cell (p := ⟨w.heap.size, j, none⟩) (by simp)]
  have : (w.alloc (.cells cs T)).heap[w.heap.size]? = some (.cells cs T) := by show (w.heap.push _)[w.heap.size]? = _; simp
  simp only [World.cell?, this]
  rfl

end Go.Proofs.YtmcpanjpjnlleaaDoor


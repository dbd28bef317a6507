/- References: put together, and taken apart. -/
import Derived.Test.YtmcpanjpjnlleaaDoorTrSize
set_option linter.unusedVariables false
namespace Go.Proofs.YtmcpanjpjnlleaaDoor
open Go.RowKit

/-- A reference's word, and its two numbers. -/
def refV (a b : Int) : BitVec 64 := BitVec.ofNat 64 ((a % 4294967296).toNat + (b % 4294967296).toNat * 4294967296)
def loV (x : BitVec 64) : Int := ((x.toNat % 4294967296 : Nat) : Int)
def hiV (x : BitVec 64) : Int := ((x.toNat / 4294967296 : Nat) : Int)

theorem half_nat (a : Int) : (BitVec.ofInt 64 (a % 4294967296)).toNat = (a % 4294967296).toNat ∧ (a % 4294967296).toNat < 4294967296 := by
  have h0 := Int.emod_nonneg a (show (4294967296 : Int) ≠ 0 by decide)
  have h1 := Int.emod_lt_of_pos a (show (0 : Int) < 4294967296 by decide)
  refine ⟨?_, by omega⟩
  rw [BitVec.toNat_ofInt]
  omega
theorem refV_nat (a b : Int) : (refV a b).toNat = (a % 4294967296).toNat + (b % 4294967296).toNat * 4294967296 := by
  have h1 := (half_nat a).2
  have h2 := (half_nat b).2
  rw [refV, BitVec.toNat_ofNat]
  exact Nat.mod_eq_of_lt (by omega)
theorem ref_shl (b : Int) : (BitVec.ofInt 64 (b % 4294967296) <<< 32).toNat = (b % 4294967296).toNat * 4294967296 := by
  obtain ⟨h1, h2⟩ := half_nat b
  rw [BitVec.toNat_shiftLeft, h1, Nat.shiftLeft_eq, show 2 ^ 32 = 4294967296 from rfl]
  exact Nat.mod_eq_of_lt (by omega)
theorem ref_or (a b : Int) : BitVec.ofInt 64 (a % 4294967296) ||| BitVec.ofInt 64 (b % 4294967296) <<< 32 = refV a b := by
  obtain ⟨h1, h2⟩ := half_nat a
  apply BitVec.eq_of_toNat_eq
  rw [refV_nat, BitVec.toNat_or, ref_shl, h1, show (4294967296 : Nat) = 2 ^ 32 from rfl, ← Nat.shiftLeft_eq, Nat.or_comm, ← Nat.shiftLeft_add_eq_or_of_lt (by rw [show (2 : Nat) ^ 32 = 4294967296 from rfl]; exact h2), Nat.add_comm]
theorem ref_add (a b : Int) : BitVec.ofInt 64 (a % 4294967296) + BitVec.ofInt 64 (b % 4294967296) <<< 32 = refV a b := by
  obtain ⟨h1, h2⟩ := half_nat a
  have h3 := (half_nat b).2
  apply BitVec.eq_of_toNat_eq
  rw [refV_nat, BitVec.toNat_add, ref_shl, h1]
  exact Nat.mod_eq_of_lt (by omega)

set_option maxHeartbeats 2000000 in
theorem ref_any (a b : Int) (w : World) : Calls Tryd.prog 24 #[.int .i64 a, .int .i64 b] w fun r w' => r = .returned (U (refV a b)) ∧ w' = w := by
  go_enter Tryd.func24, Tryd.ntmps24
  go_wp2
  go_ret
  exact ⟨by rw [← ref_or]; rfl, rfl⟩

set_option maxHeartbeats 2000000 in
theorem rref_any (a b : Int) (w : World) : Calls Tryd.prog 25 #[.int .i64 a, .int .i64 b] w fun r w' => r = .returned (U (refV a b)) ∧ w' = w := by
  go_enter Tryd.func25, Tryd.ntmps25
  go_wp2
  go_ret
  exact ⟨by rw [← ref_add]; rfl, rfl⟩

@[go_sem] theorem run_convert_U32 {P : Program} (w : World) (src dst : TypeId) (x : BitVec 64) (hs : (P.underlying src).isSome = true) (hd : P.underlying dst = some (.int .u32)) :
    (convert src dst (U x)).run P w = .ok (.int .u32 (loV x)) w := by
  obtain ⟨d, hd'⟩ := Option.isSome_iff_exists.mp hs
  have e : IntKind.u32.wrap (x.toNat : Int) = loV x := by
    rw [IntKind.wrap_u32]
    unfold loV
    omega
  simp [convert, U, run_underlying hd', run_underlying hd, Conv.intToInt, e]
theorem loV_bd (x : BitVec 64) : 0 ≤ loV x ∧ loV x < 4294967296 := by unfold loV; omega
theorem hi_shr (x : BitVec 64) : (x >>> 32).toInt = hiV x := by
  have h := x.isLt
  have e : (x >>> 32).toNat = x.toNat / 4294967296 := by rw [BitVec.toNat_ushiftRight, Nat.shiftRight_eq_div_pow]
  rw [BitVec.toInt_eq_toNat_cond, e, if_pos (by omega)]; rfl

set_option maxRecDepth 100000 in
set_option maxHeartbeats 2000000 in
theorem part_any (x : BitVec 64) (w : World) : Calls Tryd.prog 23 #[U x] w fun r w' => r = .returned (.tuple #[.int .i64 (loV x), .int .i64 (hiV x)]) ∧ w' = w := by
  go_enter Tryd.func23, Tryd.ntmps23
  have hb := loV_bd x
  have hh := hi_shr x
  have hw : wrap64 (loV x) = loV x := by obtain ⟨hb0, hb1⟩ := hb; unfold wrap64; omega
  clear hb
  generalize hiV x = hi at *
  go_wp2
  go_returns
  exact ⟨by show Ending.returned (.tuple #[.int .i64 (wrap64 (loV x)), .int .i64 hi]) = _; rw [hw], rfl⟩
end Go.Proofs.YtmcpanjpjnlleaaDoor


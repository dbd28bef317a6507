/- Bytes, and rows told by an index: small laws of the walk. No program in sight. -/
import Derived.Test.YtmcpanjpjnlleaaDoorBase
set_option linter.unusedVariables false
namespace Go.Proofs.YtmcpanjpjnlleaaDoor
open Go.RowKit

/-- A byte. -/
def Y (b : UInt8) : Value := .int .u8 (b.toNat : Int)
/-- A word's lowest byte. -/
def by8 (x : BitVec 64) : UInt8 := UInt8.ofNat x.toNat

section
variable {P : Program} (w : World)
@[go_sem] theorem run_convert_U8 (src dst : TypeId) (x : BitVec 64) (hs : (P.underlying src).isSome = true) (hd : P.underlying dst = some (.int .u8)) :
    (convert src dst (U x)).run P w = .ok (.int .u8 ((by8 x).toNat : Int)) w := by
  obtain ⟨d, hd'⟩ := Option.isSome_iff_exists.mp hs
  have e : IntKind.u8.wrap (x.toNat : Int) = ((by8 x).toNat : Int) := by
    rw [IntKind.wrap_u8]
    unfold by8
    rw [UInt8.toNat_ofNat']
    omega
  simp [convert, U, run_underlying hd', run_underlying hd, Conv.intToInt, e]
@[go_sem] theorem run_convert_U64 (src dst : TypeId) (x : BitVec 64) (hs : (P.underlying src).isSome = true) (hd : P.underlying dst = some (.int .u64)) :
    (convert src dst (U x)).run P w = .ok (U x) w := by
  obtain ⟨d, hd'⟩ := Option.isSome_iff_exists.mp hs
  have e : IntKind.u64.wrap (x.toNat : Int) = (x.toNat : Int) := wrap_self x
  simp [convert, U, run_underlying hd', run_underlying hd, Conv.intToInt, e]
theorem i64_toInt (x : BitVec 64) : IntKind.i64.wrap (x.toNat : Int) = x.toInt := by
  rw [IntKind.wrap_i64, BitVec.toInt_eq_toNat_cond]
  have := x.isLt
  split <;> omega
@[go_sem] theorem run_convert_UI (src dst : TypeId) (x : BitVec 64) (hs : (P.underlying src).isSome = true) (hd : P.underlying dst = some (.int .i64)) :
    (convert src dst (U x)).run P w = .ok (.int .i64 x.toInt) w := by
  obtain ⟨d, hd'⟩ := Option.isSome_iff_exists.mp hs
  simp [convert, U, run_underlying hd', run_underlying hd, Conv.intToInt, i64_toInt]
end

end Go.Proofs.YtmcpanjpjnlleaaDoor


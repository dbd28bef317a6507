/- Parts of rows, halves of words; what a look goes by. -/
import Derived.Test.YtblbhlgihlgncaaDoorValV
import Derived.Test.YtblbhlgihlgncaaDoorGc
set_option linter.unusedVariables false
set_option linter.unusedSimpArgs false
namespace Go.Proofs.YtblbhlgihlgncaaDoor
section SVRow
open Go.RowKit

theorem lo_toInt (x : BitVec 64) : (x &&& 4294967295#64).toInt = (loN x : Int) := by
  have e : (x &&& 4294967295#64).toNat = x.toNat % 4294967296 := by
    rw [BitVec.toNat_and, show (4294967295#64).toNat = 2 ^ 32 - 1 from rfl, Nat.and_two_pow_sub_one_eq_mod]
  rw [BitVec.toInt_eq_toNat_cond, e, if_pos (by omega)]
  rfl
theorem hi_toInt (x : BitVec 64) : (x >>> 32).toInt = (hiN x : Int) := by
  have e : (x >>> 32).toNat = x.toNat / 4294967296 := by rw [BitVec.toNat_ushiftRight, Nat.shiftRight_eq_div_pow]
  have := x.isLt
  rw [BitVec.toInt_eq_toNat_cond, e, if_pos (by omega)]
  rfl
/-- A part of a row. -/
theorem row_sub {w : World} {b off n cap : Nat} {xs : List (BitVec 64)} (h : Row w 1 (.slice (some ⟨b, off, none⟩) n cap) xs.length (xs.map U)) (hn : n = xs.length) (lo k : Nat) (hk : lo + k ≤ n) :
    Row w 1 (.slice (some ⟨b, off + lo, none⟩) k (cap - lo)) ((xs.drop lo).take k).length (((xs.drop lo).take k).map U) := by
  obtain ⟨h1, h2, a', c', e, h4, h5, h6, h7⟩ := h
  simp only [Value.slice.injEq] at e
  obtain ⟨rfl, _, rfl⟩ := e
  have hl : ((xs.drop lo).take k).length = k := by rw [List.length_take, List.length_drop]; omega
  rw [hl]
  refine ⟨by rw [List.length_map, hl]; omega, by omega, _, _, rfl, by omega, by omega, fun e => (by cases e), fun h0 => ?_⟩
  obtain ⟨b', off', e1, e2, e3⟩ := h7 (by omega)
  simp only [Option.some.injEq, Addr.mk.injEq, and_true] at e1
  obtain ⟨rfl, rfl⟩ := e1
  refine ⟨b, off + lo, rfl, e2, fun j hj => ?_⟩
  rw [Nat.add_assoc, e3 (lo + j) (by omega), List.getElem?_map, List.getElem?_map, List.getElem?_take, if_pos (by omega), List.getElem?_drop]

/-- What a look goes by, at a world from which it comes. -/
structure Lx (s : Schema) (ws : List (BitVec 64)) (sv : Value) (a : Option Addr) (cap g : Nat) (w0 : World) : Prop where
  hr : rightB s = true
  hs : Sch w0 sv s
  hw : Row w0 1 (.slice a ws.length cap) ws.length (ws.map U)
  hg : w0.heap.size ≤ g
  hL : ws.length ≤ 200
theorem below_grown {g : Nat} {w0 w w' : World} (hb : Below g w0 w) (hg : w.grownBy w' (some g)) (hs : g ≤ w.heap.size) : Below g w0 w' := hb.grown hg hs fun k e => by injection e with e; exact Nat.le_of_eq e
end SVRow

end Go.Proofs.YtblbhlgihlgncaaDoor


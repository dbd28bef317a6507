/- The document's answer for control's words: in, flag, Fits, Pack, Unpack; and the program's, by the same words. -/
import Derived.Test.YtbhnbjaafejcjaaDoorUnpack
set_option linter.unusedVariables false
namespace Go.Proofs.YtbhnbjaafejcjaaDoor
open Go.RowKit

/-- What a word has. -/
def unE (x : BitVec 64) : Int := ((x.toNat / 562949953421312 : Nat) : Int)
def unG (x : BitVec 64) : Int := ((x.toNat / 65536 % 2147483648 : Nat) : Int)
def unB (x : BitVec 64) : Int := ((x.toNat % 65536 : Nat) : Int)
def unL (x : BitVec 64) : Bool := decide (x.toNat / 281474976710656 % 2 = 1)
def unU (x : BitVec 64) : Bool := decide (x.toNat / 140737488355328 % 2 = 1)
abbrev unC (x : BitVec 64) : Value := CV (unE x) (unG x) (unB x) (unL x) (unU x)
def ctlW (e g b : Int) (l u : Bool) : BitVec 64 := BitVec.ofNat 64 (ctlN e g b l u)

theorem toInt_small (v : BitVec 64) (h : v.toNat < 9223372036854775808) : v.toInt = (v.toNat : Int) := by
  rw [BitVec.toInt_eq_toNat_cond]; omega

theorem unX_nat (x : BitVec 64) (j p n : Nat) (hp : placeAt j = p) (hn : partS j = n) (h1 : 1 ≤ n) (h2 : n ≤ 31) (h3 : p + n ≤ 64) : unX x j = ((x.toNat / 2 ^ p % 2 ^ n : Nat) : Int) := by
  have hlt : x.toNat / 2 ^ p % 2 ^ n < 2 ^ 31 := Nat.lt_of_lt_of_le (Nat.mod_lt _ (Nat.two_pow_pos n)) (Nat.pow_le_pow_right (by omega) h2)
  rw [unX, hp, hn, toInt_small _ (by rw [getV_nat x p n h1 h3]; omega), getV_nat x p n h1 h3]

theorem unpack_any (x : BitVec 64) (w : World) : Calls Tryd.prog 30 #[U x] w fun r w' => r = .returned (unC x) ∧ Below w.heap.size w w' :=
  (unpack_walk x w).mono fun r w' ⟨hr, hb⟩ => by
    refine ⟨?_, hb⟩
    have hx := x.isLt
    rw [hr, unX_nat x 4 49 15 rfl rfl (by omega) (by omega) (by omega), unX_nat x 1 16 31 rfl rfl (by omega) (by omega) (by omega), unX_nat x 0 0 16 rfl rfl (by omega) (by omega) (by omega), unX_nat x 3 48 1 rfl rfl (by omega) (by omega) (by omega), unX_nat x 2 47 1 rfl rfl (by omega) (by omega) (by omega)]
    have e1 : x.toNat / 2 ^ 49 % 2 ^ 15 = x.toNat / 562949953421312 := by omega
    have e2 : x.toNat / 2 ^ 0 % 2 ^ 16 = x.toNat % 65536 := by omega
    rw [e1, e2]
    simp only [unC, unE, unG, unB, unL, unU]
    congr 3
    · exact propext (by omega)
    · exact propext (by omega)

theorem un_fits (x : BitVec 64) : ctlFits (unE x) (unG x) (unB x) = true := by
  have hx := x.isLt
  unfold ctlFits unE unG unB
  exact decide_eq_true (by omega)

theorem un_pack (x : BitVec 64) : ctlW (unE x) (unG x) (unB x) (unL x) (unU x) = x := by
  have hx := x.isLt
  apply BitVec.eq_of_toNat_eq
  have hl : (b01 (unL x)).toNat = x.toNat / 281474976710656 % 2 := by
    unfold unL b01; split <;> simp_all <;> omega
  have hu : (b01 (unU x)).toNat = x.toNat / 140737488355328 % 2 := by
    unfold unU b01; split <;> simp_all <;> omega
  rw [ctlW, BitVec.toNat_ofNat, ctlN, hl, hu, unE, unG, unB]
  simp only [Int.toNat_natCast]
  omega

theorem pack_un (e g b : Int) (l u : Bool) (h : ctlFits e g b = true) :
    unE (ctlW e g b l u) = e ∧ unG (ctlW e g b l u) = g ∧ unB (ctlW e g b l u) = b ∧ unL (ctlW e g b l u) = l ∧ unU (ctlW e g b l u) = u := by
  have h' : 0 ≤ e ∧ e ≤ 32767 ∧ 0 ≤ g ∧ g ≤ 2147483647 ∧ 0 ≤ b ∧ b ≤ 65535 := of_decide_eq_true h
  have hl := b01_bd l
  have hu := b01_bd u
  have hn : (ctlW e g b l u).toNat = ctlN e g b l u := by
    rw [ctlW, BitVec.toNat_ofNat, Nat.mod_eq_of_lt]
    unfold ctlN
    omega
  have hbl : l = decide (b01 l = 1) := by cases l <;> rfl
  have hbu : u = decide (b01 u = 1) := by cases u <;> rfl
  simp only [unE, unG, unB, unL, unU, hn, ctlN]
  refine ⟨by omega, by omega, by omega, ?_, ?_⟩
  · conv => rhs; rw [hbl]
    rw [decide_eq_decide]; omega
  · conv => rhs; rw [hbu]
    rw [decide_eq_decide]; omega

def PackR (e g b : Int) (l u : Bool) : Value := .tuple (if ctlFits e g b then #[U (ctlW e g b l u), .nilIface] else #[U 0#64, .iface 31 (.int .i64 1)])

def I64 (n : Int) : Prop := -9223372036854775808 ≤ n ∧ n ≤ 9223372036854775807

theorem pack_any (e g b : Int) (l u : Bool) (he : I64 e) (hg : I64 g) (hb : I64 b) (w : World) :
    Calls Tryd.prog 31 #[CV e g b l u] w fun r w' => r = .returned (PackR e g b l u) ∧ Below w.heap.size w w' :=
  (pack_walk e g b l u w).mono fun r w' ⟨s, hs, hr, hbl⟩ => by
    refine ⟨?_, hbl⟩
    subst hs
    rw [hr, packR, packS_ok e g b l u he hg hb, PackR]
    congr 2
    by_cases hf : ctlFits e g b = true
    · rw [if_pos hf, if_pos hf, packS_word e g b l u hf]; rfl
    · rw [if_neg hf, if_neg hf]

def refPackV (e g b : Int) (l u : Bool) : BitVec 64 :=
  ((BitVec.ofInt 64 e * 2#64 + BitVec.ofInt 64 (b01 l)) * 2#64) <<< 47 + BitVec.ofInt 64 (b01 u) <<< 47 + BitVec.ofInt 64 g <<< 16 + BitVec.ofInt 64 b

theorem refunpack_any (x : BitVec 64) (w : World) : Calls Tryd.prog 72 #[U x] w fun r w' => r = .returned (unC x) ∧ Below w.heap.size w w' := by
  have hx := x.isLt
  have he : ((x.toNat : Int) >>> 49) = unE x := by
    unfold unE; rw [← Int.natCast_shiftRight, Nat.shiftRight_eq_div_pow]
  have hg : Int.bmod ((x.toNat >>> 16 &&& 2147483647 : Nat) : Int) 18446744073709551616 = unG x := by
    unfold unG; rw [show (2147483647 : Nat) = 2 ^ 31 - 1 from rfl, Nat.and_two_pow_sub_one_eq_mod, Nat.shiftRight_eq_div_pow]
    rw [Int.bmod_def]; omega
  have hb : Int.bmod ((x.toNat &&& 65535 : Nat) : Int) 18446744073709551616 = unB x := by
    unfold unB; rw [show (65535 : Nat) = 2 ^ 16 - 1 from rfl, Nat.and_two_pow_sub_one_eq_mod]
    rw [Int.bmod_def]; omega
  have hl : (x >>> 48 &&& 1#64 == 1#64) = unL x := by
    unfold unL; rw [Bool.eq_iff_iff, beq_iff_eq, decide_eq_true_eq, ← BitVec.toNat_inj, BitVec.toNat_and, BitVec.toNat_ushiftRight]
    rw [show (1#64).toNat = 2 ^ 1 - 1 from rfl, Nat.and_two_pow_sub_one_eq_mod, Nat.shiftRight_eq_div_pow]
  have hu : (x >>> 47 &&& 1#64 == 1#64) = unU x := by
    unfold unU; rw [Bool.eq_iff_iff, beq_iff_eq, decide_eq_true_eq, ← BitVec.toNat_inj, BitVec.toNat_and, BitVec.toNat_ushiftRight]
    rw [show (1#64).toNat = 2 ^ 1 - 1 from rfl, Nat.and_two_pow_sub_one_eq_mod, Nat.shiftRight_eq_div_pow]
  unfold unC
  generalize unE x = vE at *
  generalize unG x = vG at *
  generalize unB x = vB at *
  generalize unL x = vL at *
  generalize unU x = vU at *
  go_enter Tryd.func72, Tryd.ntmps72
  go_wp2
  go_returns
  refine ⟨rfl, ?_⟩
  go_grown
end Go.Proofs.YtbhnbjaafejcjaaDoor


/- The document's answer for control's words: in, flag, Fits, Pack, Unpack; and the program's, by the same words. -/
import Derived.Test.YtcgnflalcglfdaaDoorUnpack
set_option linter.unusedVariables false
namespace Go.Proofs.YtcgnflalcglfdaaDoor
open Go.RowKit

/-- What a word has. -/
def unE (x : BitVec 64) : Int := ((x.toNat / 562949953421312 : Nat) : Int)
def unG (x : BitVec 64) : Int := ((x.toNat / 65536 % 2147483648 : Nat) : Int)
def unB (x : BitVec 64) : Int := ((x.toNat % 65536 : Nat) : Int)
def unL (x : BitVec 64) : Bool := decide (x.toNat / 281474976710656 % 2 = 1)
def unU (x : BitVec 64) : Bool := decide (x.toNat / 140737488355328 % 2 = 1)
abbrev unC (x : BitVec 64) : Value := CV (unE x) (unG x) (unB x) (unL x) (unU x)
def ctlW (e g b : Int) (l u : Bool) : BitVec 64 := BitVec.ofNat 64 (ctlN e g b l u)

theorem toInt_small (v : BitVec 64) (h : v.toNat < 9223372036854775808) : v.toInt = (v.toNat : Int) := by
  rw [BitVec.toInt_eq_toNat_cond]; omega

theorem unX_nat (x : BitVec 64) (j p n : Nat) (hp : placeAt j = p) (hn : partS j = n) (h1 : 1 ≤ n) (h2 : n ≤ 31) (h3 : p + n ≤ 64) : unX x j = ((x.toNat / 2 ^ p % 2 ^ n : Nat) : Int) := by
  have hlt : x.toNat / 2 ^ p % 2 ^ n < 2 ^ 31 := Nat.lt_of_lt_of_le (Nat.mod_lt _ (Nat.two_pow_pos n)) (Nat.pow_le_pow_right (by omega) h2)
  rw [unX, hp, hn, toInt_small _ (by rw [getV_nat x p n h1 h3]; omega), getV_nat x p n h1 h3]

theorem unpack_any (x : BitVec 64) (w : World) : Calls Tryd.prog 15 #[U x] w fun r w' => r = .returned (unC x) ∧ Below w.heap.size w w' :=
  (unpack_walk x w).mono fun r w' ⟨hr, hb⟩ => by
    refine ⟨?_, hb⟩
    have hx := x.isLt
    rw [hr, unX_nat x 4 49 15 rfl rfl (by omega) (by omega) (by omega), unX_nat x 1 16 31 rfl rfl (by omega) (by omega) (by omega), unX_nat x 0 0 16 rfl rfl (by omega) (by omega) (by omega), unX_nat x 3 48 1 rfl rfl (by omega) (by omega) (by omega), unX_nat x 2 47 1 rfl rfl (by omega) (by omega) (by omega)]
    have e1 : x.toNat / 2 ^ 49 % 2 ^ 15 = x.toNat / 562949953421312 := by omega
    have e2 : x.toNat / 2 ^ 0 % 2 ^ 16 = x.toNat % 65536 := by omega
    rw [e1, e2]
    simp only [unC, unE, unG, unB, unL, unU]
    congr 3
    · exact propext (by omega)
    · exact propext (by omega)

theorem un_fits (x : BitVec 64) : ctlFits (unE x) (unG x) (unB x) = true := by
  have hx := x.isLt
  unfold ctlFits unE unG unB
  exact decide_eq_true (by omega)

theorem un_pack (x : BitVec 64) : ctlW (unE x) (unG x) (unB x) (unL x) (unU x) = x := by
  have hx := x.isLt
  apply BitVec.eq_of_toNat_eq
  have hl : (b01 (unL x)).toNat = x.toNat / 281474976710656 % 2 := by
    unfold unL b01; split <;> simp_all <;> omega
  have hu : (b01 (unU x)).toNat = x.toNat / 140737488355328 % 2 := by
    unfold unU b01; split <;> simp_all <;> omega
  rw [ctlW, BitVec.toNat_ofNat, ctlN, hl, hu, unE, unG, unB]
  simp only [Int.toNat_natCast]
  omega

theorem pack_un (e g b : Int) (l u : Bool) (h : ctlFits e g b = true) :
    unE (ctlW e g b l u) = e ∧ unG (ctlW e g b l u) = g ∧ unB (ctlW e g b l u) = b ∧ unL (ctlW e g b l u) = l ∧ unU (ctlW e g b l u) = u := by
  have h' : 0 ≤ e ∧ e ≤ 32767 ∧ 0 ≤ g ∧ g ≤ 2147483647 ∧ 0 ≤ b ∧ b ≤ 65535 := of_decide_eq_true h
  have hl := b01_bd l
  have hu := b01_bd u
  have hn : (ctlW e g b l u).toNat = ctlN e g b l u := by
    rw [ctlW, BitVec.toNat_ofNat, Nat.mod_eq_of_lt]
    unfold ctlN
    omega
  have hbl : l = decide (b01 l = 1) := by cases l <;> rfl
  have hbu : u = decide (b01 u = 1) := by cases u <;> rfl
  simp only [unE, unG, unB, unL, unU, hn, ctlN]
  refine ⟨by omega, by omega, by omega, ?_, ?_⟩
  · conv => rhs; rw [hbl]
    rw [decide_eq_decide]; omega
  · conv => rhs; rw [hbu]
    rw [decide_eq_decide]; omega

def PackR (e g b : Int) (l u : Bool) : Value := .tuple (if ctlFits e g b then #[U (ctlW e g b l u), .nilIface] else #[U 0#64, .iface 32 (.int .i64 1)])

def I64 (n : Int) : Prop := -9223372036854775808 ≤ n ∧ n ≤ 9223372036854775807

theorem pack_any (e g b : Int) (l u : Bool) (he : I64 e) (hg : I64 g) (hb : I64 b) (w : World) :
    Calls Tryd.prog 14 #[CV e g b l u] w fun r w' => r = .returned (PackR e g b l u) ∧ Below w.heap.size w w' :=
  (pack_walk e g b l u w).mono fun r w' ⟨s, hs, hr, hbl⟩ => by
    refine ⟨?_, hbl⟩
    subst hs
    rw [hr, packR, packS_ok e g b l u he hg hb, PackR]
    congr 2
    by_cases hf : ctlFits e g b = true
    · rw [if_pos hf, if_pos hf, packS_word e g b l u hf]; rfl
    · rw [if_neg hf, if_neg hf]

theorem in_any (n m : Int) (w : World) : Calls Tryd.prog 49 #[.int .i64 n, .int .i64 m] w fun r w' => r = .returned (.bool (decide (0 ≤ n ∧ n ≤ m))) ∧ w' = w := by
  by_cases h1 : 0 ≤ n
  · by_cases h2 : n ≤ m
    · have : decide (0 ≤ n ∧ n ≤ m) = true := by simp [h1, h2]
      rw [this]
      go_enter Tryd.func49, Tryd.ntmps49
      go_wp2
      go_ret
      exact ⟨by simp [h1, h2], rfl⟩
    · have : decide (0 ≤ n ∧ n ≤ m) = false := by simp [h2]
      rw [this]
      go_enter Tryd.func49, Tryd.ntmps49
      go_wp2
      go_ret
      exact ⟨by simp [h1, h2], rfl⟩
  · have : decide (0 ≤ n ∧ n ≤ m) = false := by simp [h1]
    rw [this]
    go_enter Tryd.func49, Tryd.ntmps49
    go_wp2
    go_ret
    exact ⟨by simp [h1], rfl⟩

theorem flag_any (l : Bool) (w : World) : Calls Tryd.prog 51 #[.bool l] w fun r w' => r = .returned (U (BitVec.ofInt 64 (b01 l))) ∧ w' = w := by
  cases l
  all_goals
    go_enter Tryd.func51, Tryd.ntmps51
    go_wp2
    go_ret
    exact ⟨rfl, rfl⟩

/-- The five cells of a box of api.Control, and the walk over it. -/
theorem fits_any (e g b : Int) (l u : Bool) (w : World) : Calls Tryd.prog 16 #[CV e g b l u] w fun r w' => r = .returned (.bool (ctlFits e g b)) ∧ Below w.heap.size w w' := by
  unfold CV
  have hf : ctlFits e g b = (decide (0 ≤ b ∧ b ≤ 65535) && decide (0 ≤ g ∧ g ≤ 2147483647) && decide (0 ≤ e ∧ e ≤ 32767)) := by
    unfold ctlFits; rw [Bool.eq_iff_iff]; simp only [Bool.and_eq_true, decide_eq_true_eq]; omega
  have i1 := in_any b 65535
  have i2 := in_any g 2147483647
  have i3 := in_any e 32767
  generalize decide (0 ≤ b ∧ b ≤ 65535) = x1 at *
  generalize decide (0 ≤ g ∧ g ≤ 2147483647) = x2 at *
  generalize decide (0 ≤ e ∧ e ≤ 32767) = x3 at *
  have Hf := hid hf
  clear hf
  cases x1 <;> cases x2 <;> cases x3
  all_goals
    go_enter Tryd.func16, Tryd.ntmps16
    go_wp2_with (first | (with_reducible refine (i1 _).mono ?_; rintro e1 w1 ⟨rfl, rfl⟩) | (with_reducible refine (i2 _).mono ?_; rintro e1 w1 ⟨rfl, rfl⟩) | (with_reducible refine (i3 _).mono ?_; rintro e1 w1 ⟨rfl, rfl⟩))
    go_ret
    refine ⟨by rw [Hf.out]; rfl, ?_⟩
    go_grown

def refPackV (e g b : Int) (l u : Bool) : BitVec 64 :=
  ((BitVec.ofInt 64 e * 2#64 + BitVec.ofInt 64 (b01 l)) * 2#64) <<< 47 + BitVec.ofInt 64 (b01 u) <<< 47 + BitVec.ofInt 64 g <<< 16 + BitVec.ofInt 64 b

set_option maxHeartbeats 1000000 in
theorem refpack_walk (e g b : Int) (l u : Bool) (w : World) : Calls Tryd.prog 18 #[CV e g b l u] w fun r w' => r = .returned (U (refPackV e g b l u)) ∧ Below w.heap.size w w' := by
  unfold CV
  obtain ⟨q, hq⟩ : ∃ q, q = refPackV e g b l u := ⟨_, rfl⟩
  rw [← hq]
  unfold refPackV at hq
  have Hq := hid hq
  clear hq
  go_enter Tryd.func18, Tryd.ntmps18
  go_wp2_with fail
  (with_reducible refine (flag_any l _).mono ?_); rintro e1 w1 ⟨rfl, rfl⟩
  go_wp2_with fail
  (with_reducible refine (flag_any u _).mono ?_); rintro e1 w1 ⟨rfl, rfl⟩
  go_wp2_with fail
  rw [← Hq.out]
  go_ret
  refine ⟨rfl, ?_⟩
  go_grown

theorem refpack_any (e g b : Int) (l u : Bool) (hf : ctlFits e g b = true) (w : World) : Calls Tryd.prog 18 #[CV e g b l u] w fun r w' => r = .returned (U (ctlW e g b l u)) ∧ Below w.heap.size w w' :=
  (refpack_walk e g b l u w).mono fun r w' ⟨hr, hb⟩ => by
    refine ⟨?_, hb⟩
    have h' : 0 ≤ e ∧ e ≤ 32767 ∧ 0 ≤ g ∧ g ≤ 2147483647 ∧ 0 ≤ b ∧ b ≤ 65535 := of_decide_eq_true hf
    have hl := b01_bd l
    have hu := b01_bd u
    rw [hr]
    apply ret_U
    apply BitVec.eq_of_toNat_eq
    have ho : ∀ m : Int, 0 ≤ m → m ≤ 2147483647 → (BitVec.ofInt 64 m).toNat = m.toNat := by
      intro m h1 h2; rw [BitVec.toNat_ofInt]; congr 1; omega
    simp only [refPackV, BitVec.toNat_add, BitVec.toNat_mul, BitVec.toNat_shiftLeft, ho _ h'.1 (by omega), ho _ h'.2.2.1 (by omega), ho _ h'.2.2.2.2.1 (by omega), ho _ hl.1 (by omega), ho _ hu.1 (by omega), ctlW, BitVec.toNat_ofNat, ctlN, Nat.shiftLeft_eq]
    omega

theorem refunpack_any (x : BitVec 64) (w : World) : Calls Tryd.prog 19 #[U x] w fun r w' => r = .returned (unC x) ∧ Below w.heap.size w w' := by
  have hx := x.isLt
  have he : ((x.toNat : Int) >>> 49) = unE x := by
    unfold unE; rw [← Int.natCast_shiftRight, Nat.shiftRight_eq_div_pow]
  have hg : Int.bmod ((x.toNat >>> 16 &&& 2147483647 : Nat) : Int) 18446744073709551616 = unG x := by
    unfold unG; rw [show (2147483647 : Nat) = 2 ^ 31 - 1 from rfl, Nat.and_two_pow_sub_one_eq_mod, Nat.shiftRight_eq_div_pow]
    rw [Int.bmod_def]; omega
  have hb : Int.bmod ((x.toNat &&& 65535 : Nat) : Int) 18446744073709551616 = unB x := by
    unfold unB; rw [show (65535 : Nat) = 2 ^ 16 - 1 from rfl, Nat.and_two_pow_sub_one_eq_mod]
    rw [Int.bmod_def]; omega
  have hl : (x >>> 48 &&& 1#64 == 1#64) = unL x := by
    unfold unL; rw [Bool.eq_iff_iff, beq_iff_eq, decide_eq_true_eq, ← BitVec.toNat_inj, BitVec.toNat_and, BitVec.toNat_ushiftRight]
    rw [show (1#64).toNat = 2 ^ 1 - 1 from rfl, Nat.and_two_pow_sub_one_eq_mod, Nat.shiftRight_eq_div_pow]
  have hu : (x >>> 47 &&& 1#64 == 1#64) = unU x := by
    unfold unU; rw [Bool.eq_iff_iff, beq_iff_eq, decide_eq_true_eq, ← BitVec.toNat_inj, BitVec.toNat_and, BitVec.toNat_ushiftRight]
    rw [show (1#64).toNat = 2 ^ 1 - 1 from rfl, Nat.and_two_pow_sub_one_eq_mod, Nat.shiftRight_eq_div_pow]
  unfold unC
  generalize unE x = vE at *
  generalize unG x = vG at *
  generalize unB x = vB at *
  generalize unL x = vL at *
  generalize unU x = vU at *
  go_enter Tryd.func19, Tryd.ntmps19
  go_wp2
  go_returns
  refine ⟨rfl, ?_⟩
  go_grown
end Go.Proofs.YtcgnflalcglfdaaDoor

/- tree.pick: one of a row. -/
import Derived.Test.YtogaclolodlnbaaDoorGg
set_option linter.unusedVariables false
set_option linter.unusedSimpArgs false
namespace Go.Proofs.YtogaclolodlnbaaDoor
section STrPick
open Go.RowKit

def pickV (n : Nat) (l : List Int) (how : Nat → BitVec 64) : BitVec 64 × Int :=
  match l with
  | [] => (BitVec.ofNat 64 n, 0)
  | i :: r => if 0 ≤ i ∧ i < n then (if r = [] then (how i.toNat, 0) else (0#64, 24)) else (0#64, 12)

/-- A slice of ints reads l. -/
abbrev Ints (w : World) (v : Value) (l : List Int) : Prop := Row w 1 v l.length (l.map (Value.int .i64))

theorem U_nat (n : Nat) (h : n < 18446744073709551616) : Value.int .u64 (n : Int) = U (BitVec.ofNat 64 n) := by
  unfold U
  congr 1
  simp only [BitVec.toNat_ofNat]
  omega

set_option maxRecDepth 100000 in
theorem pickB_any (p1 : Value) (n : Nat) (how : Nat → BitVec 64) (l : List Int) (a : Option Addr) (m c : Nat) (w : World)
    (hn : n ≤ 1000) (hm : m = l.length) (hl : Ints w (.slice a m c) l)
    (hhow : ∀ i : Nat, i < n → Calls Tryd.prog 117 #[.int .i64 i, p1] w fun r w' => r = .returned (U (how i)) ∧ w' = w) :
    Calls Tryd.prog 116 #[.int .i64 n, .slice a m c, .func (.func 117) #[] #[p1]] w fun r w' => r = .returned (.tuple #[U (pickV n l how).1, .int .i64 (pickV n l how).2]) ∧ w' = w := by
  cases l with
  | nil =>
    obtain rfl : m = 0 := hm
    show Calls _ _ _ _ fun r w' => r = .returned (.tuple #[U (BitVec.ofNat 64 n), .int .i64 0]) ∧ w' = w
    clear hl hhow
    go_enter Tryd.func116, Tryd.ntmps116
    go_wp2
    go_returns
    exact ⟨rfl, rfl⟩
  | cons i r =>
    obtain ⟨b, off, cap, e, h2, h3, h4, h5⟩ := Row.cons hl (by simp)
    simp only [Value.slice.injEq] at e
    obtain ⟨rfl, e2, rfl⟩ := e
    have c0 : w.cell? ⟨b, off, none⟩ = some (.int .i64 i) := h5 0 (by simp)
    clear h5 hl h2 h3 h4 e2
    by_cases h0 : i < 0
    · have hd : decide (i < 0) = true := decide_eq_true h0
      have hm0 : ((m : Int) == 0) = false := by rw [beq_eq_false_iff_ne]; simp at hm; omega
      have hp : pickV n (i :: r) how = (0#64, 12) := by rw [pickV, if_neg (by omega)]
      rw [hp]
      have hm1 : 0 < m := by simp at hm; omega
      clear hhow hp hm h0
      go_enter Tryd.func116, Tryd.ntmps116
      go_wp2
      go_returns
      exact ⟨rfl, rfl⟩
    · by_cases hi : i < n
      · obtain ⟨k, rfl⟩ : ∃ k : Nat, i = k := ⟨i.toNat, by omega⟩
        by_cases hr : r = []
        · subst hr
          have hp : pickV n [(k : Int)] how = (how k, 0) := by rw [pickV, if_pos (by omega), if_pos rfl, Int.toNat_natCast]
          have hc := hhow k (by omega)
          rw [hp]
          clear hhow hp
          generalize how k = x at *
          have hkn : decide (n ≤ k) = false := decide_eq_false (by omega)
          have hk0 : decide ((k : Int) < 0) = false := decide_eq_false (by omega)
          clear h0 hi
          obtain rfl : m = 1 := hm
          go_enter Tryd.func116, Tryd.ntmps116
          go_wp2_with fail
          ((refine hc.mono ?_); rintro r1 w2 ⟨rfl, rfl⟩)
          go_wp2_with fail
          go_returns
          exact ⟨rfl, rfl⟩
        · have hp : pickV n ((k : Int) :: r) how = (0#64, 24) := by rw [pickV, if_pos (by omega), if_neg hr]
          have hm1 : 1 < m := by
            cases r with
            | nil => exact absurd rfl hr
            | cons => rw [hm]; simp
          rw [hp]
          clear hhow hp
          have hkn : decide (n ≤ k) = false := decide_eq_false (by omega)
          have hk0 : decide ((k : Int) < 0) = false := decide_eq_false (by omega)
          have hmd : decide ((1 : Int) < (m : Int)) = true := decide_eq_true (by omega)
          have hm0 : ((m : Int) == 0) = false := by rw [beq_eq_false_iff_ne]; omega
          clear h0 hi hr hm
          go_enter Tryd.func116, Tryd.ntmps116
          go_wp2
          go_returns
          exact ⟨rfl, rfl⟩
      · have hp : pickV n (i :: r) how = (0#64, 12) := by rw [pickV, if_neg (by omega)]
        rw [hp]
        clear hhow hp
        obtain ⟨k, rfl⟩ : ∃ k : Nat, i = k := ⟨i.toNat, by omega⟩
        have hkn : decide (n ≤ k) = true := decide_eq_true (by omega)
        have hk0 : decide ((k : Int) < 0) = false := decide_eq_false (by omega)
        have hm0 : ((m : Int) == 0) = false := by rw [beq_eq_false_iff_ne]; simp at hm; omega
        have hm1 : 0 < m := by simp at hm; omega
        clear h0 hi hm
        go_enter Tryd.func116, Tryd.ntmps116
        go_wp2
        go_returns
        exact ⟨rfl, rfl⟩
set_option maxRecDepth 100000 in
theorem pickN_any (p1 : Value) (n : Nat) (how : Nat → BitVec 64) (l : List Int) (a : Option Addr) (m c : Nat) (w : World)
    (hn : n ≤ 1000) (hm : m = l.length) (hl : Ints w (.slice a m c) l)
    (hhow : ∀ i : Nat, i < n → Calls Tryd.prog 118 #[.int .i64 i, p1] w fun r w' => r = .returned (U (how i)) ∧ w' = w) :
    Calls Tryd.prog 116 #[.int .i64 n, .slice a m c, .func (.func 118) #[] #[p1]] w fun r w' => r = .returned (.tuple #[U (pickV n l how).1, .int .i64 (pickV n l how).2]) ∧ w' = w := by
  cases l with
  | nil =>
    obtain rfl : m = 0 := hm
    show Calls _ _ _ _ fun r w' => r = .returned (.tuple #[U (BitVec.ofNat 64 n), .int .i64 0]) ∧ w' = w
    clear hl hhow
    go_enter Tryd.func116, Tryd.ntmps116
    go_wp2
    go_returns
    exact ⟨rfl, rfl⟩
  | cons i r =>
    obtain ⟨b, off, cap, e, h2, h3, h4, h5⟩ := Row.cons hl (by simp)
    simp only [Value.slice.injEq] at e
    obtain ⟨rfl, e2, rfl⟩ := e
    have c0 : w.cell? ⟨b, off, none⟩ = some (.int .i64 i) := h5 0 (by simp)
    clear h5 hl h2 h3 h4 e2
    by_cases h0 : i < 0
    · have hd : decide (i < 0) = true := decide_eq_true h0
      have hm0 : ((m : Int) == 0) = false := by rw [beq_eq_false_iff_ne]; simp at hm; omega
      have hp : pickV n (i :: r) how = (0#64, 12) := by rw [pickV, if_neg (by omega)]
      rw [hp]
      have hm1 : 0 < m := by simp at hm; omega
      clear hhow hp hm h0
      go_enter Tryd.func116, Tryd.ntmps116
      go_wp2
      go_returns
      exact ⟨rfl, rfl⟩
    · by_cases hi : i < n
      · obtain ⟨k, rfl⟩ : ∃ k : Nat, i = k := ⟨i.toNat, by omega⟩
        by_cases hr : r = []
        · subst hr
          have hp : pickV n [(k : Int)] how = (how k, 0) := by rw [pickV, if_pos (by omega), if_pos rfl, Int.toNat_natCast]
          have hc := hhow k (by omega)
          rw [hp]
          clear hhow hp
          generalize how k = x at *
          have hkn : decide (n ≤ k) = false := decide_eq_false (by omega)
          have hk0 : decide ((k : Int) < 0) = false := decide_eq_false (by omega)
          clear h0 hi
          obtain rfl : m = 1 := hm
          go_enter Tryd.func116, Tryd.ntmps116
          go_wp2_with fail
          ((refine hc.mono ?_); rintro r1 w2 ⟨rfl, rfl⟩)
          go_wp2_with fail
          go_returns
          exact ⟨rfl, rfl⟩
        · have hp : pickV n ((k : Int) :: r) how = (0#64, 24) := by rw [pickV, if_pos (by omega), if_neg hr]
          have hm1 : 1 < m := by
            cases r with
            | nil => exact absurd rfl hr
            | cons => rw [hm]; simp
          rw [hp]
          clear hhow hp
          have hkn : decide (n ≤ k) = false := decide_eq_false (by omega)
          have hk0 : decide ((k : Int) < 0) = false := decide_eq_false (by omega)
          have hmd : decide ((1 : Int) < (m : Int)) = true := decide_eq_true (by omega)
          have hm0 : ((m : Int) == 0) = false := by rw [beq_eq_false_iff_ne]; omega
          clear h0 hi hr hm
          go_enter Tryd.func116, Tryd.ntmps116
          go_wp2
          go_returns
          exact ⟨rfl, rfl⟩
      · have hp : pickV n (i :: r) how = (0#64, 12) := by rw [pickV, if_neg (by omega)]
        rw [hp]
        clear hhow hp
        obtain ⟨k, rfl⟩ : ∃ k : Nat, i = k := ⟨i.toNat, by omega⟩
        have hkn : decide (n ≤ k) = true := decide_eq_true (by omega)
        have hk0 : decide ((k : Int) < 0) = false := decide_eq_false (by omega)
        have hm0 : ((m : Int) == 0) = false := by rw [beq_eq_false_iff_ne]; simp at hm; omega
        have hm1 : 0 < m := by simp at hm; omega
        clear h0 hi hm
        go_enter Tryd.func116, Tryd.ntmps116
        go_wp2
        go_returns
        exact ⟨rfl, rfl⟩
set_option maxRecDepth 100000 in
theorem pickK_any (p1 p2 : Value) (n : Nat) (how : Nat → BitVec 64) (l : List Int) (a : Option Addr) (m c : Nat) (w : World)
    (hn : n ≤ 1000) (hm : m = l.length) (hl : Ints w (.slice a m c) l)
    (hhow : ∀ i : Nat, i < n → Calls Tryd.prog 119 #[.int .i64 i, p1, p2] w fun r w' => r = .returned (U (how i)) ∧ w' = w) :
    Calls Tryd.prog 116 #[.int .i64 n, .slice a m c, .func (.func 119) #[] #[p1, p2]] w fun r w' => r = .returned (.tuple #[U (pickV n l how).1, .int .i64 (pickV n l how).2]) ∧ w' = w := by
  cases l with
  | nil =>
    obtain rfl : m = 0 := hm
    show Calls _ _ _ _ fun r w' => r = .returned (.tuple #[U (BitVec.ofNat 64 n), .int .i64 0]) ∧ w' = w
    clear hl hhow
    go_enter Tryd.func116, Tryd.ntmps116
    go_wp2
    go_returns
    exact ⟨rfl, rfl⟩
  | cons i r =>
    obtain ⟨b, off, cap, e, h2, h3, h4, h5⟩ := Row.cons hl (by simp)
    simp only [Value.slice.injEq] at e
    obtain ⟨rfl, e2, rfl⟩ := e
    have c0 : w.cell? ⟨b, off, none⟩ = some (.int .i64 i) := h5 0 (by simp)
    clear h5 hl h2 h3 h4 e2
    by_cases h0 : i < 0
    · have hd : decide (i < 0) = true := decide_eq_true h0
      have hm0 : ((m : Int) == 0) = false := by rw [beq_eq_false_iff_ne]; simp at hm; omega
      have hp : pickV n (i :: r) how = (0#64, 12) := by rw [pickV, if_neg (by omega)]
      rw [hp]
      have hm1 : 0 < m := by simp at hm; omega
      clear hhow hp hm h0
      go_enter Tryd.func116, Tryd.ntmps116
      go_wp2
      go_returns
      exact ⟨rfl, rfl⟩
    · by_cases hi : i < n
      · obtain ⟨k, rfl⟩ : ∃ k : Nat, i = k := ⟨i.toNat, by omega⟩
        by_cases hr : r = []
        · subst hr
          have hp : pickV n [(k : Int)] how = (how k, 0) := by rw [pickV, if_pos (by omega), if_pos rfl, Int.toNat_natCast]
          have hc := hhow k (by omega)
          rw [hp]
          clear hhow hp
          generalize how k = x at *
          have hkn : decide (n ≤ k) = false := decide_eq_false (by omega)
          have hk0 : decide ((k : Int) < 0) = false := decide_eq_false (by omega)
          clear h0 hi
          obtain rfl : m = 1 := hm
          go_enter Tryd.func116, Tryd.ntmps116
          go_wp2_with fail
          ((refine hc.mono ?_); rintro r1 w2 ⟨rfl, rfl⟩)
          go_wp2_with fail
          go_returns
          exact ⟨rfl, rfl⟩
        · have hp : pickV n ((k : Int) :: r) how = (0#64, 24) := by rw [pickV, if_pos (by omega), if_neg hr]
          have hm1 : 1 < m := by
            cases r with
            | nil => exact absurd rfl hr
            | cons => rw [hm]; simp
          rw [hp]
          clear hhow hp
          have hkn : decide (n ≤ k) = false := decide_eq_false (by omega)
          have hk0 : decide ((k : Int) < 0) = false := decide_eq_false (by omega)
          have hmd : decide ((1 : Int) < (m : Int)) = true := decide_eq_true (by omega)
          have hm0 : ((m : Int) == 0) = false := by rw [beq_eq_false_iff_ne]; omega
          clear h0 hi hr hm
          go_enter Tryd.func116, Tryd.ntmps116
          go_wp2
          go_returns
          exact ⟨rfl, rfl⟩
      · have hp : pickV n (i :: r) how = (0#64, 12) := by rw [pickV, if_neg (by omega)]
        rw [hp]
        clear hhow hp
        obtain ⟨k, rfl⟩ : ∃ k : Nat, i = k := ⟨i.toNat, by omega⟩
        have hkn : decide (n ≤ k) = true := decide_eq_true (by omega)
        have hk0 : decide ((k : Int) < 0) = false := decide_eq_false (by omega)
        have hm0 : ((m : Int) == 0) = false := by rw [beq_eq_false_iff_ne]; simp at hm; omega
        have hm1 : 0 < m := by simp at hm; omega
        clear h0 hi hm
        go_enter Tryd.func116, Tryd.ntmps116
        go_wp2
        go_returns
        exact ⟨rfl, rfl⟩
end STrPick

end Go.Proofs.YtogaclolodlnbaaDoor


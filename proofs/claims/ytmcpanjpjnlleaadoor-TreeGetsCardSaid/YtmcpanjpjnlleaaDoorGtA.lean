/- tree.pick: one of a row. -/
import Derived.Test.YtmcpanjpjnlleaaDoorTrSize
import Derived.Deep.RegionHeld3
set_option linter.unusedVariables false
set_option linter.unusedSimpArgs false
namespace Go.Proofs.YtmcpanjpjnlleaaDoor
section STrPick
open Go.RowKit

def pickV (n : Nat) (l : List Int) (how : Nat → BitVec 64) : BitVec 64 × Int :=
  match l with
  | [] => (BitVec.ofNat 64 n, 0)
  | i :: r => if 0 ≤ i ∧ i < n then (if r = [] then (how i.toNat, 0) else (0#64, 24)) else (0#64, 12)

/-- A slice of ints reads l. -/
abbrev Ints (w : World) (v : Value) (l : List Int) : Prop := Row w 1 v l.length (l.map (Value.int .i64))

theorem U_nat (n : Nat) (h : n < 18446744073709551616) : Value.int .u64 (n : Int) = U (BitVec.ofNat 64 n) := by
  unfold U
  congr 1
  simp only [BitVec.toNat_ofNat]
  omega

set_option maxRecDepth 100000 in
theorem pickB_any (p1 : Value) (n : Nat) (how : Nat → BitVec 64) (l : List Int) (a : Option Addr) (m c : Nat) (w : World)
    (hn : n ≤ 1000) (hm : m = l.length) (hl : Ints w (.slice a m c) l)
    (hhow : ∀ i : Nat, i < n → Calls Tryd.prog 48 #[.int .i64 i, p1] w fun r w' => r = .returned (U (how i)) ∧ w' = w) :
    Calls Tryd.prog 47 #[.int .i64 n, .slice a m c, .func (.func 48) #[] #[p1]] w fun r w' => r = .returned (.tuple #[U (pickV n l how).1, .int .i64 (pickV n l how).2]) ∧ w' = w := by
  cases l with
  | nil =>
    obtain rfl : m = 0 := hm
    show Calls _ _ _ _ fun r w' => r = .returned (.tuple #[U (BitVec.ofNat 64 n), .int .i64 0]) ∧ w' = w
    clear hl hhow
    go_enter Tryd.func47, Tryd.ntmps47
    go_wp2
    go_returns
    exact ⟨rfl, rfl⟩
  | cons i r =>
    obtain ⟨b, off, cap, e, h2, h3, h4, h5⟩ := Row.cons hl (by simp)
    simp only [Value.slice.injEq] at e
    obtain ⟨rfl, e2, rfl⟩ := e
    have c0 : w.cell? ⟨b, off, none⟩ = some (.int .i64 i) := h5 0 (by simp)
    clear h5 hl h2 h3 h4 e2
    by_cases h0 : i < 0
    · have hd : decide (i < 0) = true := decide_eq_true h0
      have hm0 : ((m : Int) == 0) = false := by rw [beq_eq_false_iff_ne]; simp at hm; omega
      have hp : pickV n (i :: r) how = (0#64, 12) := by rw [pickV, if_neg (by omega)]
      rw [hp]
      have hm1 : 0 < m := by simp at hm; omega
      clear hhow hp hm h0
      go_enter Tryd.func47, Tryd.ntmps47
      go_wp2
      go_returns
      exact ⟨rfl, rfl⟩
    · by_cases hi : i < n
      · obtain ⟨k, rfl⟩ : ∃ k : Nat, i = k := ⟨i.toNat, by omega⟩
        by_cases hr : r = []
        · subst hr
          have hp : pickV n [(k : Int)] how = (how k, 0) := by rw [pickV, if_pos (by omega), if_pos rfl, Int.toNat_natCast]
          have hc := hhow k (by omega)
          rw [hp]
          clear hhow hp
          generalize how k = x at *
          have hkn : decide (n ≤ k) = false := decide_eq_false (by omega)
          have hk0 : decide ((k : Int) < 0) = false := decide_eq_false (by omega)
          clear h0 hi
          obtain rfl : m = 1 := hm
          go_enter Tryd.func47, Tryd.ntmps47
          go_wp2_with fail
          ((refine hc.mono ?_); rintro r1 w2 ⟨rfl, rfl⟩)
          go_wp2_with fail
          go_returns
          exact ⟨rfl, rfl⟩
        · have hp : pickV n ((k : Int) :: r) how = (0#64, 24) := by rw [pickV, if_pos (by omega), if_neg hr]
          have hm1 : 1 < m := by
            cases r with
            | nil => exact absurd rfl hr
            | cons => rw [hm]; simp
          rw [hp]
          clear hhow hp
          have hkn : decide (n ≤ k) = false := decide_eq_false (by omega)
          have hk0 : decide ((k : Int) < 0) = false := decide_eq_false (by omega)
          have hmd : decide ((1 : Int) < (m : Int)) = true := decide_eq_true (by omega)
          have hm0 : ((m : Int) == 0) = false := by rw [beq_eq_false_iff_ne]; omega
          clear h0 hi hr hm
          go_enter Tryd.func47, Tryd.ntmps47
          go_wp2
          go_returns
          exact ⟨rfl, rfl⟩
      · have hp : pickV n (i :: r) how = (0#64, 12) := by rw [pickV, if_neg (by omega)]
        rw [hp]
        clear hhow hp
        obtain ⟨k, rfl⟩ : ∃ k : Nat, i = k := ⟨i.toNat, by omega⟩
        have hkn : decide (n ≤ k) = true := decide_eq_true (by omega)
        have hk0 : decide ((k : Int) < 0) = false := decide_eq_false (by omega)
        have hm0 : ((m : Int) == 0) = false := by rw [beq_eq_false_iff_ne]; simp at hm; omega
        have hm1 : 0 < m := by simp at hm; omega
        clear h0 hi hm
        go_enter Tryd.func47, Tryd.ntmps47
        go_wp2
        go_returns
        exact ⟨rfl, rfl⟩
set_option maxRecDepth 100000 in
theorem pickN_any (p1 : Value) (n : Nat) (how : Nat → BitVec 64) (l : List Int) (a : Option Addr) (m c : Nat) (w : World)
    (hn : n ≤ 1000) (hm : m = l.length) (hl : Ints w (.slice a m c) l)
    (hhow : ∀ i : Nat, i < n → Calls Tryd.prog 49 #[.int .i64 i, p1] w fun r w' => r = .returned (U (how i)) ∧ w' = w) :
    Calls Tryd.prog 47 #[.int .i64 n, .slice a m c, .func (.func 49) #[] #[p1]] w fun r w' => r = .returned (.tuple #[U (pickV n l how).1, .int .i64 (pickV n l how).2]) ∧ w' = w := by
  cases l with
  | nil =>
    obtain rfl : m = 0 := hm
    show Calls _ _ _ _ fun r w' => r = .returned (.tuple #[U (BitVec.ofNat 64 n), .int .i64 0]) ∧ w' = w
    clear hl hhow
    go_enter Tryd.func47, Tryd.ntmps47
    go_wp2
    go_returns
    exact ⟨rfl, rfl⟩
  | cons i r =>
    obtain ⟨b, off, cap, e, h2, h3, h4, h5⟩ := Row.cons hl (by simp)
    simp only [Value.slice.injEq] at e
    obtain ⟨rfl, e2, rfl⟩ := e
    have c0 : w.cell? ⟨b, off, none⟩ = some (.int .i64 i) := h5 0 (by simp)
    clear h5 hl h2 h3 h4 e2
    by_cases h0 : i < 0
    · have hd : decide (i < 0) = true := decide_eq_true h0
      have hm0 : ((m : Int) == 0) = false := by rw [beq_eq_false_iff_ne]; simp at hm; omega
      have hp : pickV n (i :: r) how = (0#64, 12) := by rw [pickV, if_neg (by omega)]
      rw [hp]
      have hm1 : 0 < m := by simp at hm; omega
      clear hhow hp hm h0
      go_enter Tryd.func47, Tryd.ntmps47
      go_wp2
      go_returns
      exact ⟨rfl, rfl⟩
    · by_cases hi : i < n
      · obtain ⟨k, rfl⟩ : ∃ k : Nat, i = k := ⟨i.toNat, by omega⟩
        by_cases hr : r = []
        · subst hr
          have hp : pickV n [(k : Int)] how = (how k, 0) := by rw [pickV, if_pos (by omega), if_pos rfl, Int.toNat_natCast]
          have hc := hhow k (by omega)
          rw [hp]
          clear hhow hp
          generalize how k = x at *
          have hkn : decide (n ≤ k) = false := decide_eq_false (by omega)
          have hk0 : decide ((k : Int) < 0) = false := decide_eq_false (by omega)
          clear h0 hi
          obtain rfl : m = 1 := hm
          go_enter Tryd.func47, Tryd.ntmps47
          go_wp2_with fail
          ((refine hc.mono ?_); rintro r1 w2 ⟨rfl, rfl⟩)
          go_wp2_with fail
          go_returns
          exact ⟨rfl, rfl⟩
        · have hp : pickV n ((k : Int) :: r) how = (0#64, 24) := by rw [pickV, if_pos (by omega), if_neg hr]
          have hm1 : 1 < m := by
            cases r with
            | nil => exact absurd rfl hr
            | cons => rw [hm]; simp
          rw [hp]
          clear hhow hp
          have hkn : decide (n ≤ k) = false := decide_eq_false (by omega)
          have hk0 : decide ((k : Int) < 0) = false := decide_eq_false (by omega)
          have hmd : decide ((1 : Int) < (m : Int)) = true := decide_eq_true (by omega)
          have hm0 : ((m : Int) == 0) = false := by rw [beq_eq_false_iff_ne]; omega
          clear h0 hi hr hm
          go_enter Tryd.func47, Tryd.ntmps47
          go_wp2
          go_returns
          exact ⟨rfl, rfl⟩
      · have hp : pickV n (i :: r) how = (0#64, 12) := by rw [pickV, if_neg (by omega)]
        rw [hp]
        clear hhow hp
        obtain ⟨k, rfl⟩ : ∃ k : Nat, i = k := ⟨i.toNat, by omega⟩
        have hkn : decide (n ≤ k) = true := decide_eq_true (by omega)
        have hk0 : decide ((k : Int) < 0) = false := decide_eq_false (by omega)
        have hm0 : ((m : Int) == 0) = false := by rw [beq_eq_false_iff_ne]; simp at hm; omega
        have hm1 : 0 < m := by simp at hm; omega
        clear h0 hi hm
        go_enter Tryd.func47, Tryd.ntmps47
        go_wp2
        go_returns
        exact ⟨rfl, rfl⟩
set_option maxRecDepth 100000 in
theorem pickK_any (p1 p2 : Value) (n : Nat) (how : Nat → BitVec 64) (l : List Int) (a : Option Addr) (m c : Nat) (w : World)
    (hn : n ≤ 1000) (hm : m = l.length) (hl : Ints w (.slice a m c) l)
    (hhow : ∀ i : Nat, i < n → Calls Tryd.prog 50 #[.int .i64 i, p1, p2] w fun r w' => r = .returned (U (how i)) ∧ w' = w) :
    Calls Tryd.prog 47 #[.int .i64 n, .slice a m c, .func (.func 50) #[] #[p1, p2]] w fun r w' => r = .returned (.tuple #[U (pickV n l how).1, .int .i64 (pickV n l how).2]) ∧ w' = w := by
  cases l with
  | nil =>
    obtain rfl : m = 0 := hm
    show Calls _ _ _ _ fun r w' => r = .returned (.tuple #[U (BitVec.ofNat 64 n), .int .i64 0]) ∧ w' = w
    clear hl hhow
    go_enter Tryd.func47, Tryd.ntmps47
    go_wp2
    go_returns
    exact ⟨rfl, rfl⟩
  | cons i r =>
    obtain ⟨b, off, cap, e, h2, h3, h4, h5⟩ := Row.cons hl (by simp)
    simp only [Value.slice.injEq] at e
    obtain ⟨rfl, e2, rfl⟩ := e
    have c0 : w.cell? ⟨b, off, none⟩ = some (.int .i64 i) := h5 0 (by simp)
    clear h5 hl h2 h3 h4 e2
    by_cases h0 : i < 0
    · have hd : decide (i < 0) = true := decide_eq_true h0
      have hm0 : ((m : Int) == 0) = false := by rw [beq_eq_false_iff_ne]; simp at hm; omega
      have hp : pickV n (i :: r) how = (0#64, 12) := by rw [pickV, if_neg (by omega)]
      rw [hp]
      have hm1 : 0 < m := by simp at hm; omega
      clear hhow hp hm h0
      go_enter Tryd.func47, Tryd.ntmps47
      go_wp2
      go_returns
      exact ⟨rfl, rfl⟩
    · by_cases hi : i < n
      · obtain ⟨k, rfl⟩ : ∃ k : Nat, i = k := ⟨i.toNat, by omega⟩
        by_cases hr : r = []
        · subst hr
          have hp : pickV n [(k : Int)] how = (how k, 0) := by rw [pickV, if_pos (by omega), if_pos rfl, Int.toNat_natCast]
          have hc := hhow k (by omega)
          rw [hp]
          clear hhow hp
          generalize how k = x at *
          have hkn : decide (n ≤ k) = false := decide_eq_false (by omega)
          have hk0 : decide ((k : Int) < 0) = false := decide_eq_false (by omega)
          clear h0 hi
          obtain rfl : m = 1 := hm
          go_enter Tryd.func47, Tryd.ntmps47
          go_wp2_with fail
          ((refine hc.mono ?_); rintro r1 w2 ⟨rfl, rfl⟩)
          go_wp2_with fail
          go_returns
          exact ⟨rfl, rfl⟩
        · have hp : pickV n ((k : Int) :: r) how = (0#64, 24) := by rw [pickV, if_pos (by omega), if_neg hr]
          have hm1 : 1 < m := by
            cases r with
            | nil => exact absurd rfl hr
            | cons => rw [hm]; simp
          rw [hp]
          clear hhow hp
          have hkn : decide (n ≤ k) = false := decide_eq_false (by omega)
          have hk0 : decide ((k : Int) < 0) = false := decide_eq_false (by omega)
          have hmd : decide ((1 : Int) < (m : Int)) = true := decide_eq_true (by omega)
          have hm0 : ((m : Int) == 0) = false := by rw [beq_eq_false_iff_ne]; omega
          clear h0 hi hr hm
          go_enter Tryd.func47, Tryd.ntmps47
          go_wp2
          go_returns
          exact ⟨rfl, rfl⟩
      · have hp : pickV n (i :: r) how = (0#64, 12) := by rw [pickV, if_neg (by omega)]
        rw [hp]
        clear hhow hp
        obtain ⟨k, rfl⟩ : ∃ k : Nat, i = k := ⟨i.toNat, by omega⟩
        have hkn : decide (n ≤ k) = true := decide_eq_true (by omega)
        have hk0 : decide ((k : Int) < 0) = false := decide_eq_false (by omega)
        have hm0 : ((m : Int) == 0) = false := by rw [beq_eq_false_iff_ne]; simp at hm; omega
        have hm1 : 0 < m := by simp at hm; omega
        clear h0 hi hm
        go_enter Tryd.func47, Tryd.ntmps47
        go_wp2
        go_returns
        exact ⟨rfl, rfl⟩
end STrPick

section STrPick2
open Go.RowKit

def byteV (b : ByteArray) (j : Nat) : BitVec 64 := BitVec.ofNat 64 (b.data.toList.getD j 0).toNat

theorem getB_any (D : Nat) (b : ByteArray) (i : Nat) (hi : i < b.size) (w : World) (h1 : w.cell? ⟨D, 1, none⟩ = some (.string b)) :
    Calls Tryd.prog 48 #[.int .i64 i, .pointer (some ⟨D, 0, none⟩)] w fun r w' => r = .returned (U (byteV b i)) ∧ w' = w := by
  have hb : byteV b i = BitVec.ofNat 64 b[i].toNat := by
    unfold byteV
    congr 2
    rw [List.getD_eq_getElem?_getD, List.getElem?_eq_getElem (by simpa using hi), Option.getD_some]
    rfl
  rw [hb]
  clear hb
  go_enter Tryd.func48, Tryd.ntmps48
  go_wp2
  go_ret
  exact ⟨rfl, rfl⟩

theorem getN_any (D : Nat) (l : List (BitVec 64)) (a : Option Addr) (n c : Nat) (hn : n = l.length) (i : Nat) (hi : i < l.length) (w : World) (h1 : w.cell? ⟨D, 2, none⟩ = some (.slice a n c)) (hr : Row w 1 (.slice a n c) l.length (l.map U)) :
    Calls Tryd.prog 49 #[.int .i64 i, .pointer (some ⟨D, 0, none⟩)] w fun r w' => r = .returned (U (l.getD i 0#64)) ∧ w' = w := by
  obtain ⟨b, off, cap, e, h2, h3, h4, h5⟩ := hr.cons (by omega)
  simp only [Value.slice.injEq] at e
  obtain ⟨rfl, _, rfl⟩ := e
  have hc : w.cell? ⟨b, off + i, none⟩ = some (U (l.getD i 0#64)) := by
    rw [h5 i (by omega)]
    simp [List.getD, hi]
  rw [← hn] at hi
  generalize l.getD i 0#64 = x at *
  clear h5 hr hn
  go_enter Tryd.func49, Tryd.ntmps49
  go_wp2
  go_ret
  exact ⟨rfl, rfl⟩

theorem getK_any (P Q : Nat) (s : Schema) (sv : Value) (t : Int) (i : Nat) (w : World) (h1 : w.cell? ⟨P, 0, none⟩ = some sv) (h2 : w.cell? ⟨Q, 0, none⟩ = some (.int .i64 t)) (hs : Sch w sv s) :
    Calls Tryd.prog 50 #[.int .i64 i, .pointer (some ⟨P, 0, none⟩), .pointer (some ⟨Q, 0, none⟩)] w fun r w' => r = .returned (U (BitVec.ofNat 64 (typeL s t).length)) ∧ w' = w := by
  have hf := nfields_any s sv t w hs
  obtain ⟨a, cap, rfl, hcc⟩ := hs.shape
  clear hs
  generalize (typeL s t).length = n at *
  go_enter Tryd.func50, Tryd.ntmps50
  go_wp2_with ((refine hf.mono ?_); rintro r1 w2 ⟨rfl, rfl⟩)
  go_ret
  exact ⟨rfl, rfl⟩
end STrPick2

section STrGetV
open Go.RowKit

/-- At the end of a path: how many structs, or a struct's fields. -/
def endV (s : Schema) (ty : Int) (n : Nat) (rest : List Int) : BitVec 64 × Int :=
  if rest ≠ [] ∧ n = 0 then (0#64, 12) else pickV n rest (fun _ => BitVec.ofNat 64 (typeL s ty).length)

/-- Behind a field. -/
def getF {α : Type} (s : Schema) (rec : α → List Int → BitVec 64 × Int) (kd ty : Int) (k : Node α) (rest : List Int) : BitVec 64 × Int :=
  if kd = 1 then (if rest = [] then (k.num, 0) else (0#64, 24))
  else if kd = 2 then pickV k.bytes.size rest (byteV k.bytes)
  else if kd = 3 then pickV k.nums.length rest (fun j => k.nums.getD j 0#64)
  else if kd = 4 then
    if rest ≠ [] then
      match k.kids[0]? with
      | some x => rec x rest
      | none => endV s ty k.kids.length rest
    else endV s ty k.kids.length rest
  else if kd = 5 then
    if rest.tail ≠ [] ∧ 0 ≤ rest.headD 0 then
      match k.kids[(rest.headD 0).toNat]? with
      | some x => rec x rest.tail
      | none => endV s ty k.kids.length rest
    else endV s ty k.kids.length rest
  else endV s ty k.kids.length rest

/-- What a path of a struct leads to: a number, and a code. -/
def getT (s : Schema) : (d : Nat) → Int → St d → List Int → BitVec 64 × Int
  | 0, _, v, _ => nomatch v
  | d + 1, t, v, path =>
    if path.headD 0 < 0 then (0#64, 1) else
    match v.kids[(path.headD 0).toNat]? with
    | none => (0#64, 1)
    | some k => getF s (fun x r => getT s d (fieldP s t (path.headD 0)).2 x r) (fieldP s t (path.headD 0)).1 (fieldP s t (path.headD 0)).2 k path.tail

theorem Ints.tail {w : World} {b off m c : Nat} {p : Int} {l : List Int} (h : Ints w (.slice (some ⟨b, off, none⟩) m c) (p :: l)) (hm : m = l.length + 1) :
    Ints w (.slice (some ⟨b, off + 1, none⟩) l.length (c - 1)) l := by
  obtain ⟨b', off', cap', e, h2, h3, h4, h5⟩ := Row.cons h (by simp)
  have h6 := h.most
  simp only [Value.slice.injEq, Option.some.injEq, Addr.mk.injEq] at e
  obtain ⟨⟨rfl, rfl, _⟩, _, rfl⟩ := e
  simp only [List.length_cons] at h2 h5 h6
  refine ⟨by simp, by omega, some ⟨b, off + 1, none⟩, c - 1, rfl, by omega, by omega, (fun e => by cases e), fun _ => ⟨b, off + 1, rfl, h4, fun j hj => ?_⟩⟩
  have := h5 (j + 1) (by omega)
  rw [Nat.add_assoc, Nat.add_comm 1 j, this]
  simp

/-- A path behind its first number: what the machine makes of it. -/
theorem Ints.behind {w : World} {b off m c : Nat} {p : Int} {l : List Int} (h : Ints w (.slice (some ⟨b, off, none⟩) m c) (p :: l)) (hm : m = l.length + 1) :
    ∃ o2, (if c = 1 then some (⟨b, off, none⟩ : Addr) else some ⟨b, off + 1, none⟩) = some ⟨b, o2, none⟩ ∧ Ints w (.slice (some ⟨b, o2, none⟩) l.length (c - 1)) l := by
  by_cases hc : c = 1
  · refine ⟨off, if_pos hc, ?_⟩
    obtain ⟨b', off', cap', e, h2, h3, h4, h5⟩ := Row.cons h (by simp)
    simp only [Value.slice.injEq, Option.some.injEq, Addr.mk.injEq] at e
    obtain ⟨⟨rfl, rfl, _⟩, _, rfl⟩ := e
    have hl : l = [] := by
      cases l with
      | nil => rfl
      | cons x l => simp at h2; omega
    subst hl hc
    exact ⟨by simp, by decide, some ⟨b, off, none⟩, 0, rfl, Nat.le_refl _, Nat.zero_le _, fun _ => rfl, fun h0 => absurd h0 (by decide)⟩
  · exact ⟨off + 1, if_neg hc, h.tail hm⟩
end STrGetV

section STrGetA
open Go.RowKit

theorem cell_below {W W' : World} {p : Addr} {v : Value} (h : W.cell? p = some v) (hb : Below W.heap.size W W') : W'.cell? p = some v := (hb.cell (World.block_lt_of_cell? W p h)).trans h
theorem kept8 {W0 W W' : World} {p1 p2 p3 p4 p5 p6 p7 p8 : Addr} {v1 v2 v3 v4 v5 v6 v7 v8 : Value} (h : W.cell? p1 = some v1 ∧ W.cell? p2 = some v2 ∧ W.cell? p3 = some v3 ∧ W.cell? p4 = some v4 ∧ W.cell? p5 = some v5 ∧ W.cell? p6 = some v6 ∧ W.cell? p7 = some v7 ∧ W.cell? p8 = some v8 ∧ Below W0.heap.size W0 W) (hb : Below W.heap.size W W') : W'.cell? p1 = some v1 ∧ W'.cell? p2 = some v2 ∧ W'.cell? p3 = some v3 ∧ W'.cell? p4 = some v4 ∧ W'.cell? p5 = some v5 ∧ W'.cell? p6 = some v6 ∧ W'.cell? p7 = some v7 ∧ W'.cell? p8 = some v8 ∧ Below W0.heap.size W0 W' := by
  obtain ⟨h1, h2, h3, h4, h5, h6, h7, h8, h9⟩ := h
  exact ⟨cell_below h1 hb, cell_below h2 hb, cell_below h3 hb, cell_below h4 hb, cell_below h5 hb, cell_below h6 hb, cell_below h7 hb, cell_below h8 hb, h9.trans (hb.mono h9.size)⟩
theorem kept8_end {W0 W : World} {p1 p2 p3 p4 p5 p6 p7 p8 : Addr} {v1 v2 v3 v4 v5 v6 v7 v8 : Value} (h : W.cell? p1 = some v1 ∧ W.cell? p2 = some v2 ∧ W.cell? p3 = some v3 ∧ W.cell? p4 = some v4 ∧ W.cell? p5 = some v5 ∧ W.cell? p6 = some v6 ∧ W.cell? p7 = some v7 ∧ W.cell? p8 = some v8 ∧ Below W0.heap.size W0 W) : Below W0.heap.size W0 W := h.2.2.2.2.2.2.2.2

/-- A tree laid anew, cell by cell. -/
theorem tree_copy (w : World) (m : Nat) (c0 c1 c2 c3 : Value) : ∃ W, ((((((w.drewN m).alloc (.cells #[.int .u64 0, .string { data := #[] }, .slice none 0 0, .slice none 0 0] 34)).setCell ⟨w.heap.size, 0, none⟩ c0).setCell ⟨w.heap.size, 1, none⟩ c1).setCell ⟨w.heap.size, 2, none⟩ c2).setCell ⟨w.heap.size, 3, none⟩ c3) = W ∧
    Below w.heap.size w W ∧ w.heap.size < W.heap.size ∧ W.cell? ⟨w.heap.size, 0, none⟩ = some c0 ∧ W.cell? ⟨w.heap.size, 1, none⟩ = some c1 ∧ W.cell? ⟨w.heap.size, 2, none⟩ = some c2 ∧ W.cell? ⟨w.heap.size, 3, none⟩ = some c3 := by
  have z0 : ((w.drewN m).alloc (.cells #[.int .u64 0, .string { data := #[] }, .slice none 0 0, .slice none 0 0] 34)).cell? ⟨w.heap.size, 0, none⟩ = some (.int .u64 0) := World.cell?_alloc_at _ _ _ _ rfl
  have z1 : ((w.drewN m).alloc (.cells #[.int .u64 0, .string { data := #[] }, .slice none 0 0, .slice none 0 0] 34)).cell? ⟨w.heap.size, 1, none⟩ = some (.string { data := #[] }) := World.cell?_alloc_at _ _ _ _ rfl
  have z2 : ((w.drewN m).alloc (.cells #[.int .u64 0, .string { data := #[] }, .slice none 0 0, .slice none 0 0] 34)).cell? ⟨w.heap.size, 2, none⟩ = some (.slice none 0 0) := World.cell?_alloc_at _ _ _ _ rfl
  have z3 : ((w.drewN m).alloc (.cells #[.int .u64 0, .string { data := #[] }, .slice none 0 0, .slice none 0 0] 34)).cell? ⟨w.heap.size, 3, none⟩ = some (.slice none 0 0) := World.cell?_alloc_at _ _ _ _ rfl
  refine ⟨_, rfl, ?_, ?_, ?_, ?_, ?_, ?_⟩
  · exact (((((below_drewN _ w m).alloc (Nat.le_refl _) _).setCell (Nat.le_refl _) _).setCell (Nat.le_refl _) _).setCell (Nat.le_refl _) _).setCell (Nat.le_refl _) _
  · simp
  all_goals simp [go_sem, z0, z1, z2, z3]

def GetR (w : World) (x : BitVec 64 × Int) (e : Ending) (w' : World) : Prop := e = .returned (.tuple #[U x.1, .int .i64 x.2]) ∧ Below w.heap.size w w'

/-- The contract of tree.get for structs of St d. -/
def GetIH (s : Schema) (sa : Option Addr) (sn sc : Nat) (d : Nat) : Prop := ∀ (t : Int) (v : St d) (cs : List Value) (p : Int) (rest : List Int) (b off m c : Nat) (w : World), Sch w (.slice sa sn sc) s → RdS d w cs v →
    m = rest.length + 1 → Ints w (.slice (some ⟨b, off, none⟩) m c) (p :: rest) →
    Calls Tryd.prog 30 #[.slice sa sn sc, .int .i64 t, .agg cs.toArray, .slice (some ⟨b, off, none⟩) m c] w (GetR w (getT s d t v (p :: rest)))
end STrGetA

end Go.Proofs.YtmcpanjpjnlleaaDoor


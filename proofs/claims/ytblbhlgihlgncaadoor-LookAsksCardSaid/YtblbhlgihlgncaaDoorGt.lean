/- tree.pick: one of a row. -/
import Derived.Test.YtblbhlgihlgncaaDoorGg
import Derived.Deep.RegionHeld3
set_option linter.unusedVariables false
set_option linter.unusedSimpArgs false
namespace Go.Proofs.YtblbhlgihlgncaaDoor
section STrPick
open Go.RowKit

def pickV (n : Nat) (l : List Int) (how : Nat → BitVec 64) : BitVec 64 × Int :=
  match l with
  | [] => (BitVec.ofNat 64 n, 0)
  | i :: r => if 0 ≤ i ∧ i < n then (if r = [] then (how i.toNat, 0) else (0#64, 24)) else (0#64, 12)

/-- A slice of ints reads l. -/
abbrev Ints (w : World) (v : Value) (l : List Int) : Prop := Row w 1 v l.length (l.map (Value.int .i64))

theorem U_nat (n : Nat) (h : n < 18446744073709551616) : Value.int .u64 (n : Int) = U (BitVec.ofNat 64 n) := by
  unfold U
  congr 1
  simp only [BitVec.toNat_ofNat]
  omega

set_option maxRecDepth 100000 in
theorem pickB_any (p1 : Value) (n : Nat) (how : Nat → BitVec 64) (l : List Int) (a : Option Addr) (m c : Nat) (w : World)
    (hn : n ≤ 1000) (hm : m = l.length) (hl : Ints w (.slice a m c) l)
    (hhow : ∀ i : Nat, i < n → Calls Tryd.prog 85 #[.int .i64 i, p1] w fun r w' => r = .returned (U (how i)) ∧ w' = w) :
    Calls Tryd.prog 84 #[.int .i64 n, .slice a m c, .func (.func 85) #[] #[p1]] w fun r w' => r = .returned (.tuple #[U (pickV n l how).1, .int .i64 (pickV n l how).2]) ∧ w' = w := by
  cases l with
  | nil =>
    obtain rfl : m = 0 := hm
    show Calls _ _ _ _ fun r w' => r = .returned (.tuple #[U (BitVec.ofNat 64 n), .int .i64 0]) ∧ w' = w
    clear hl hhow
    go_enter Tryd.func84, Tryd.ntmps84
    go_wp2
    go_returns
    exact ⟨rfl, rfl⟩
  | cons i r =>
    obtain ⟨b, off, cap, e, h2, h3, h4, h5⟩ := Row.cons hl (by simp)
    simp only [Value.slice.injEq] at e
    obtain ⟨rfl, e2, rfl⟩ := e
    have c0 : w.cell? ⟨b, off, none⟩ = some (.int .i64 i) := h5 0 (by simp)
    clear h5 hl h2 h3 h4 e2
    by_cases h0 : i < 0
    · have hd : decide (i < 0) = true := decide_eq_true h0
      have hm0 : ((m : Int) == 0) = false := by rw [beq_eq_false_iff_ne]; simp at hm; omega
      have hp : pickV n (i :: r) how = (0#64, 12) := by rw [pickV, if_neg (by omega)]
      rw [hp]
      have hm1 : 0 < m := by simp at hm; omega
      clear hhow hp hm h0
      go_enter Tryd.func84, Tryd.ntmps84
      go_wp2
      go_returns
      exact ⟨rfl, rfl⟩
    · by_cases hi : i < n
      · obtain ⟨k, rfl⟩ : ∃ k : Nat, i = k := ⟨i.toNat, by omega⟩
        by_cases hr : r = []
        · subst hr
          have hp : pickV n [(k : Int)] how = (how k, 0) := by rw [pickV, if_pos (by omega), if_pos rfl, Int.toNat_natCast]
          have hc := hhow k (by omega)
          rw [hp]
          clear hhow hp
          generalize how k = x at *
          have hkn : decide (n ≤ k) = false := decide_eq_false (by omega)
          have hk0 : decide ((k : Int) < 0) = false := decide_eq_false (by omega)
          clear h0 hi
          obtain rfl : m = 1 := hm
          go_enter Tryd.func84, Tryd.ntmps84
          go_wp2_with fail
          ((refine hc.mono ?_); rintro r1 w2 ⟨rfl, rfl⟩)
          go_wp2_with fail
          go_returns
          exact ⟨rfl, rfl⟩
        · have hp : pickV n ((k : Int) :: r) how = (0#64, 24) := by rw [pickV, if_pos (by omega), if_neg hr]
          have hm1 : 1 < m := by
            cases r with
            | nil => exact absurd rfl hr
            | cons => rw [hm]; simp
          rw [hp]
          clear hhow hp
          have hkn : decide (n ≤ k) = false := decide_eq_false (by omega)
          have hk0 : decide ((k : Int) < 0) = false := decide_eq_false (by omega)
          have hmd : decide ((1 : Int) < (m : Int)) = true := decide_eq_true (by omega)
          have hm0 : ((m : Int) == 0) = false := by rw [beq_eq_false_iff_ne]; omega
          clear h0 hi hr hm
          go_enter Tryd.func84, Tryd.ntmps84
          go_wp2
          go_returns
          exact ⟨rfl, rfl⟩
      · have hp : pickV n (i :: r) how = (0#64, 12) := by rw [pickV, if_neg (by omega)]
        rw [hp]
        clear hhow hp
        obtain ⟨k, rfl⟩ : ∃ k : Nat, i = k := ⟨i.toNat, by omega⟩
        have hkn : decide (n ≤ k) = true := decide_eq_true (by omega)
        have hk0 : decide ((k : Int) < 0) = false := decide_eq_false (by omega)
        have hm0 : ((m : Int) == 0) = false := by rw [beq_eq_false_iff_ne]; simp at hm; omega
        have hm1 : 0 < m := by simp at hm; omega
        clear h0 hi hm
        go_enter Tryd.func84, Tryd.ntmps84
        go_wp2
        go_returns
        exact ⟨rfl, rfl⟩
set_option maxRecDepth 100000 in
theorem pickN_any (p1 : Value) (n : Nat) (how : Nat → BitVec 64) (l : List Int) (a : Option Addr) (m c : Nat) (w : World)
    (hn : n ≤ 1000) (hm : m = l.length) (hl : Ints w (.slice a m c) l)
    (hhow : ∀ i : Nat, i < n → Calls Tryd.prog 86 #[.int .i64 i, p1] w fun r w' => r = .returned (U (how i)) ∧ w' = w) :
    Calls Tryd.prog 84 #[.int .i64 n, .slice a m c, .func (.func 86) #[] #[p1]] w fun r w' => r = .returned (.tuple #[U (pickV n l how).1, .int .i64 (pickV n l how).2]) ∧ w' = w := by
  cases l with
  | nil =>
    obtain rfl : m = 0 := hm
    show Calls _ _ _ _ fun r w' => r = .returned (.tuple #[U (BitVec.ofNat 64 n), .int .i64 0]) ∧ w' = w
    clear hl hhow
    go_enter Tryd.func84, Tryd.ntmps84
    go_wp2
    go_returns
    exact ⟨rfl, rfl⟩
  | cons i r =>
    obtain ⟨b, off, cap, e, h2, h3, h4, h5⟩ := Row.cons hl (by simp)
    simp only [Value.slice.injEq] at e
    obtain ⟨rfl, e2, rfl⟩ := e
    have c0 : w.cell? ⟨b, off, none⟩ = some (.int .i64 i) := h5 0 (by simp)
    clear h5 hl h2 h3 h4 e2
    by_cases h0 : i < 0
    · have hd : decide (i < 0) = true := decide_eq_true h0
      have hm0 : ((m : Int) == 0) = false := by rw [beq_eq_false_iff_ne]; simp at hm; omega
      have hp : pickV n (i :: r) how = (0#64, 12) := by rw [pickV, if_neg (by omega)]
      rw [hp]
      have hm1 : 0 < m := by simp at hm; omega
      clear hhow hp hm h0
      go_enter Tryd.func84, Tryd.ntmps84
      go_wp2
      go_returns
      exact ⟨rfl, rfl⟩
    · by_cases hi : i < n
      · obtain ⟨k, rfl⟩ : ∃ k : Nat, i = k := ⟨i.toNat, by omega⟩
        by_cases hr : r = []
        · subst hr
          have hp : pickV n [(k : Int)] how = (how k, 0) := by rw [pickV, if_pos (by omega), if_pos rfl, Int.toNat_natCast]
          have hc := hhow k (by omega)
          rw [hp]
          clear hhow hp
          generalize how k = x at *
          have hkn : decide (n ≤ k) = false := decide_eq_false (by omega)
          have hk0 : decide ((k : Int) < 0) = false := decide_eq_false (by omega)
          clear h0 hi
          obtain rfl : m = 1 := hm
          go_enter Tryd.func84, Tryd.ntmps84
          go_wp2_with fail
          ((refine hc.mono ?_); rintro r1 w2 ⟨rfl, rfl⟩)
          go_wp2_with fail
          go_returns
          exact ⟨rfl, rfl⟩
        · have hp : pickV n ((k : Int) :: r) how = (0#64, 24) := by rw [pickV, if_pos (by omega), if_neg hr]
          have hm1 : 1 < m := by
            cases r with
            | nil => exact absurd rfl hr
            | cons => rw [hm]; simp
          rw [hp]
          clear hhow hp
          have hkn : decide (n ≤ k) = false := decide_eq_false (by omega)
          have hk0 : decide ((k : Int) < 0) = false := decide_eq_false (by omega)
          have hmd : decide ((1 : Int) < (m : Int)) = true := decide_eq_true (by omega)
          have hm0 : ((m : Int) == 0) = false := by rw [beq_eq_false_iff_ne]; omega
          clear h0 hi hr hm
          go_enter Tryd.func84, Tryd.ntmps84
          go_wp2
          go_returns
          exact ⟨rfl, rfl⟩
      · have hp : pickV n (i :: r) how = (0#64, 12) := by rw [pickV, if_neg (by omega)]
        rw [hp]
        clear hhow hp
        obtain ⟨k, rfl⟩ : ∃ k : Nat, i = k := ⟨i.toNat, by omega⟩
        have hkn : decide (n ≤ k) = true := decide_eq_true (by omega)
        have hk0 : decide ((k : Int) < 0) = false := decide_eq_false (by omega)
        have hm0 : ((m : Int) == 0) = false := by rw [beq_eq_false_iff_ne]; simp at hm; omega
        have hm1 : 0 < m := by simp at hm; omega
        clear h0 hi hm
        go_enter Tryd.func84, Tryd.ntmps84
        go_wp2
        go_returns
        exact ⟨rfl, rfl⟩
set_option maxRecDepth 100000 in
theorem pickK_any (p1 p2 : Value) (n : Nat) (how : Nat → BitVec 64) (l : List Int) (a : Option Addr) (m c : Nat) (w : World)
    (hn : n ≤ 1000) (hm : m = l.length) (hl : Ints w (.slice a m c) l)
    (hhow : ∀ i : Nat, i < n → Calls Tryd.prog 87 #[.int .i64 i, p1, p2] w fun r w' => r = .returned (U (how i)) ∧ w' = w) :
    Calls Tryd.prog 84 #[.int .i64 n, .slice a m c, .func (.func 87) #[] #[p1, p2]] w fun r w' => r = .returned (.tuple #[U (pickV n l how).1, .int .i64 (pickV n l how).2]) ∧ w' = w := by
  cases l with
  | nil =>
    obtain rfl : m = 0 := hm
    show Calls _ _ _ _ fun r w' => r = .returned (.tuple #[U (BitVec.ofNat 64 n), .int .i64 0]) ∧ w' = w
    clear hl hhow
    go_enter Tryd.func84, Tryd.ntmps84
    go_wp2
    go_returns
    exact ⟨rfl, rfl⟩
  | cons i r =>
    obtain ⟨b, off, cap, e, h2, h3, h4, h5⟩ := Row.cons hl (by simp)
    simp only [Value.slice.injEq] at e
    obtain ⟨rfl, e2, rfl⟩ := e
    have c0 : w.cell? ⟨b, off, none⟩ = some (.int .i64 i) := h5 0 (by simp)
    clear h5 hl h2 h3 h4 e2
    by_cases h0 : i < 0
    · have hd : decide (i < 0) = true := decide_eq_true h0
      have hm0 : ((m : Int) == 0) = false := by rw [beq_eq_false_iff_ne]; simp at hm; omega
      have hp : pickV n (i :: r) how = (0#64, 12) := by rw [pickV, if_neg (by omega)]
      rw [hp]
      have hm1 : 0 < m := by simp at hm; omega
      clear hhow hp hm h0
      go_enter Tryd.func84, Tryd.ntmps84
      go_wp2
      go_returns
      exact ⟨rfl, rfl⟩
    · by_cases hi : i < n
      · obtain ⟨k, rfl⟩ : ∃ k : Nat, i = k := ⟨i.toNat, by omega⟩
        by_cases hr : r = []
        · subst hr
          have hp : pickV n [(k : Int)] how = (how k, 0) := by rw [pickV, if_pos (by omega), if_pos rfl, Int.toNat_natCast]
          have hc := hhow k (by omega)
          rw [hp]
          clear hhow hp
          generalize how k = x at *
          have hkn : decide (n ≤ k) = false := decide_eq_false (by omega)
          have hk0 : decide ((k : Int) < 0) = false := decide_eq_false (by omega)
          clear h0 hi
          obtain rfl : m = 1 := hm
          go_enter Tryd.func84, Tryd.ntmps84
          go_wp2_with fail
          ((refine hc.mono ?_); rintro r1 w2 ⟨rfl, rfl⟩)
          go_wp2_with fail
          go_returns
          exact ⟨rfl, rfl⟩
        · have hp : pickV n ((k : Int) :: r) how = (0#64, 24) := by rw [pickV, if_pos (by omega), if_neg hr]
          have hm1 : 1 < m := by
            cases r with
            | nil => exact absurd rfl hr
            | cons => rw [hm]; simp
          rw [hp]
          clear hhow hp
          have hkn : decide (n ≤ k) = false := decide_eq_false (by omega)
          have hk0 : decide ((k : Int) < 0) = false := decide_eq_false (by omega)
          have hmd : decide ((1 : Int) < (m : Int)) = true := decide_eq_true (by omega)
          have hm0 : ((m : Int) == 0) = false := by rw [beq_eq_false_iff_ne]; omega
          clear h0 hi hr hm
          go_enter Tryd.func84, Tryd.ntmps84
          go_wp2
          go_returns
          exact ⟨rfl, rfl⟩
      · have hp : pickV n (i :: r) how = (0#64, 12) := by rw [pickV, if_neg (by omega)]
        rw [hp]
        clear hhow hp
        obtain ⟨k, rfl⟩ : ∃ k : Nat, i = k := ⟨i.toNat, by omega⟩
        have hkn : decide (n ≤ k) = true := decide_eq_true (by omega)
        have hk0 : decide ((k : Int) < 0) = false := decide_eq_false (by omega)
        have hm0 : ((m : Int) == 0) = false := by rw [beq_eq_false_iff_ne]; simp at hm; omega
        have hm1 : 0 < m := by simp at hm; omega
        clear h0 hi hm
        go_enter Tryd.func84, Tryd.ntmps84
        go_wp2
        go_returns
        exact ⟨rfl, rfl⟩
end STrPick

section STrPick2
open Go.RowKit

def byteV (b : ByteArray) (j : Nat) : BitVec 64 := BitVec.ofNat 64 (b.data.toList.getD j 0).toNat

theorem getB_any (D : Nat) (b : ByteArray) (i : Nat) (hi : i < b.size) (w : World) (h1 : w.cell? ⟨D, 1, none⟩ = some (.string b)) :
    Calls Tryd.prog 85 #[.int .i64 i, .pointer (some ⟨D, 0, none⟩)] w fun r w' => r = .returned (U (byteV b i)) ∧ w' = w := by
  have hb : byteV b i = BitVec.ofNat 64 b[i].toNat := by
    unfold byteV
    congr 2
    rw [List.getD_eq_getElem?_getD, List.getElem?_eq_getElem (by simpa using hi), Option.getD_some]
    rfl
  rw [hb]
  clear hb
  go_enter Tryd.func85, Tryd.ntmps85
  go_wp2
  go_ret
  exact ⟨rfl, rfl⟩

theorem getN_any (D : Nat) (l : List (BitVec 64)) (a : Option Addr) (n c : Nat) (hn : n = l.length) (i : Nat) (hi : i < l.length) (w : World) (h1 : w.cell? ⟨D, 2, none⟩ = some (.slice a n c)) (hr : Row w 1 (.slice a n c) l.length (l.map U)) :
    Calls Tryd.prog 86 #[.int .i64 i, .pointer (some ⟨D, 0, none⟩)] w fun r w' => r = .returned (U (l.getD i 0#64)) ∧ w' = w := by
  obtain ⟨b, off, cap, e, h2, h3, h4, h5⟩ := hr.cons (by omega)
  simp only [Value.slice.injEq] at e
  obtain ⟨rfl, _, rfl⟩ := e
  have hc : w.cell? ⟨b, off + i, none⟩ = some (U (l.getD i 0#64)) := by
    rw [h5 i (by omega)]
    simp [List.getD, hi]
  rw [← hn] at hi
  generalize l.getD i 0#64 = x at *
  clear h5 hr hn
  go_enter Tryd.func86, Tryd.ntmps86
  go_wp2
  go_ret
  exact ⟨rfl, rfl⟩

theorem getK_any (P Q : Nat) (s : Schema) (sv : Value) (t : Int) (i : Nat) (w : World) (h1 : w.cell? ⟨P, 0, none⟩ = some sv) (h2 : w.cell? ⟨Q, 0, none⟩ = some (.int .i64 t)) (hs : Sch w sv s) :
    Calls Tryd.prog 87 #[.int .i64 i, .pointer (some ⟨P, 0, none⟩), .pointer (some ⟨Q, 0, none⟩)] w fun r w' => r = .returned (U (BitVec.ofNat 64 (typeL s t).length)) ∧ w' = w := by
  have hf := nfields_any s sv t w hs
  obtain ⟨a, cap, rfl, hcc⟩ := hs.shape
  clear hs
  generalize (typeL s t).length = n at *
  go_enter Tryd.func87, Tryd.ntmps87
  go_wp2_with ((refine hf.mono ?_); rintro r1 w2 ⟨rfl, rfl⟩)
  go_ret
  exact ⟨rfl, rfl⟩
end STrPick2

section STrGetV
open Go.RowKit

/-- At the end of a path: how many structs, or a struct's fields. -/
def endV (s : Schema) (ty : Int) (n : Nat) (rest : List Int) : BitVec 64 × Int :=
  if rest ≠ [] ∧ n = 0 then (0#64, 12) else pickV n rest (fun _ => BitVec.ofNat 64 (typeL s ty).length)

/-- Behind a field. -/
def getF {α : Type} (s : Schema) (rec : α → List Int → BitVec 64 × Int) (kd ty : Int) (k : Node α) (rest : List Int) : BitVec 64 × Int :=
  if kd = 1 then (if rest = [] then (k.num, 0) else (0#64, 24))
  else if kd = 2 then pickV k.bytes.size rest (byteV k.bytes)
  else if kd = 3 then pickV k.nums.length rest (fun j => k.nums.getD j 0#64)
  else if kd = 4 then
    if rest ≠ [] then
      match k.kids[0]? with
      | some x => rec x rest
      | none => endV s ty k.kids.length rest
    else endV s ty k.kids.length rest
  else if kd = 5 then
    if rest.tail ≠ [] ∧ 0 ≤ rest.headD 0 then
      match k.kids[(rest.headD 0).toNat]? with
      | some x => rec x rest.tail
      | none => endV s ty k.kids.length rest
    else endV s ty k.kids.length rest
  else endV s ty k.kids.length rest

/-- What a path of a struct leads to: a number, and a code. -/
def getT (s : Schema) : (d : Nat) → Int → St d → List Int → BitVec 64 × Int
  | 0, _, v, _ => nomatch v
  | d + 1, t, v, path =>
    if path.headD 0 < 0 then (0#64, 1) else
    match v.kids[(path.headD 0).toNat]? with
    | none => (0#64, 1)
    | some k => getF s (fun x r => getT s d (fieldP s t (path.headD 0)).2 x r) (fieldP s t (path.headD 0)).1 (fieldP s t (path.headD 0)).2 k path.tail

theorem Ints.tail {w : World} {b off m c : Nat} {p : Int} {l : List Int} (h : Ints w (.slice (some ⟨b, off, none⟩) m c) (p :: l)) (hm : m = l.length + 1) :
    Ints w (.slice (some ⟨b, off + 1, none⟩) l.length (c - 1)) l := by
  obtain ⟨b', off', cap', e, h2, h3, h4, h5⟩ := Row.cons h (by simp)
  have h6 := h.most
  simp only [Value.slice.injEq, Option.some.injEq, Addr.mk.injEq] at e
  obtain ⟨⟨rfl, rfl, _⟩, _, rfl⟩ := e
  simp only [List.length_cons] at h2 h5 h6
  refine ⟨by simp, by omega, some ⟨b, off + 1, none⟩, c - 1, rfl, by omega, by omega, (fun e => by cases e), fun _ => ⟨b, off + 1, rfl, h4, fun j hj => ?_⟩⟩
  have := h5 (j + 1) (by omega)
  rw [Nat.add_assoc, Nat.add_comm 1 j, this]
  simp

/-- A path behind its first number: what the machine makes of it. -/
theorem Ints.behind {w : World} {b off m c : Nat} {p : Int} {l : List Int} (h : Ints w (.slice (some ⟨b, off, none⟩) m c) (p :: l)) (hm : m = l.length + 1) :
    ∃ o2, (if c = 1 then some (⟨b, off, none⟩ : Addr) else some ⟨b, off + 1, none⟩) = some ⟨b, o2, none⟩ ∧ Ints w (.slice (some ⟨b, o2, none⟩) l.length (c - 1)) l := by
  by_cases hc : c = 1
  · refine ⟨off, if_pos hc, ?_⟩
    obtain ⟨b', off', cap', e, h2, h3, h4, h5⟩ := Row.cons h (by simp)
    simp only [Value.slice.injEq, Option.some.injEq, Addr.mk.injEq] at e
    obtain ⟨⟨rfl, rfl, _⟩, _, rfl⟩ := e
    have hl : l = [] := by
      cases l with
      | nil => rfl
      | cons x l => simp at h2; omega
    subst hl hc
    exact ⟨by simp, by decide, some ⟨b, off, none⟩, 0, rfl, Nat.le_refl _, Nat.zero_le _, fun _ => rfl, fun h0 => absurd h0 (by decide)⟩
  · exact ⟨off + 1, if_neg hc, h.tail hm⟩
end STrGetV

section STrGetA
open Go.RowKit

theorem cell_below {W W' : World} {p : Addr} {v : Value} (h : W.cell? p = some v) (hb : Below W.heap.size W W') : W'.cell? p = some v := (hb.cell (World.block_lt_of_cell? W p h)).trans h
theorem kept8 {W0 W W' : World} {p1 p2 p3 p4 p5 p6 p7 p8 : Addr} {v1 v2 v3 v4 v5 v6 v7 v8 : Value} (h : W.cell? p1 = some v1 ∧ W.cell? p2 = some v2 ∧ W.cell? p3 = some v3 ∧ W.cell? p4 = some v4 ∧ W.cell? p5 = some v5 ∧ W.cell? p6 = some v6 ∧ W.cell? p7 = some v7 ∧ W.cell? p8 = some v8 ∧ Below W0.heap.size W0 W) (hb : Below W.heap.size W W') : W'.cell? p1 = some v1 ∧ W'.cell? p2 = some v2 ∧ W'.cell? p3 = some v3 ∧ W'.cell? p4 = some v4 ∧ W'.cell? p5 = some v5 ∧ W'.cell? p6 = some v6 ∧ W'.cell? p7 = some v7 ∧ W'.cell? p8 = some v8 ∧ Below W0.heap.size W0 W' := by
  obtain ⟨h1, h2, h3, h4, h5, h6, h7, h8, h9⟩ := h
  exact ⟨cell_below h1 hb, cell_below h2 hb, cell_below h3 hb, cell_below h4 hb, cell_below h5 hb, cell_below h6 hb, cell_below h7 hb, cell_below h8 hb, h9.trans (hb.mono h9.size)⟩
theorem kept8_end {W0 W : World} {p1 p2 p3 p4 p5 p6 p7 p8 : Addr} {v1 v2 v3 v4 v5 v6 v7 v8 : Value} (h : W.cell? p1 = some v1 ∧ W.cell? p2 = some v2 ∧ W.cell? p3 = some v3 ∧ W.cell? p4 = some v4 ∧ W.cell? p5 = some v5 ∧ W.cell? p6 = some v6 ∧ W.cell? p7 = some v7 ∧ W.cell? p8 = some v8 ∧ Below W0.heap.size W0 W) : Below W0.heap.size W0 W := h.2.2.2.2.2.2.2.2

/-- A tree laid anew, cell by cell. -/
theorem tree_copy (w : World) (m : Nat) (c0 c1 c2 c3 : Value) : ∃ W, ((((((w.drewN m).alloc (.cells #[.int .u64 0, .string { data := #[] }, .slice none 0 0, .slice none 0 0] 32)).setCell ⟨w.heap.size, 0, none⟩ c0).setCell ⟨w.heap.size, 1, none⟩ c1).setCell ⟨w.heap.size, 2, none⟩ c2).setCell ⟨w.heap.size, 3, none⟩ c3) = W ∧
    Below w.heap.size w W ∧ w.heap.size < W.heap.size ∧ W.cell? ⟨w.heap.size, 0, none⟩ = some c0 ∧ W.cell? ⟨w.heap.size, 1, none⟩ = some c1 ∧ W.cell? ⟨w.heap.size, 2, none⟩ = some c2 ∧ W.cell? ⟨w.heap.size, 3, none⟩ = some c3 := by
  have z0 : ((w.drewN m).alloc (.cells #[.int .u64 0, .string { data := #[] }, .slice none 0 0, .slice none 0 0] 32)).cell? ⟨w.heap.size, 0, none⟩ = some (.int .u64 0) := World.cell?_alloc_at _ _ _ _ rfl
  have z1 : ((w.drewN m).alloc (.cells #[.int .u64 0, .string { data := #[] }, .slice none 0 0, .slice none 0 0] 32)).cell? ⟨w.heap.size, 1, none⟩ = some (.string { data := #[] }) := World.cell?_alloc_at _ _ _ _ rfl
  have z2 : ((w.drewN m).alloc (.cells #[.int .u64 0, .string { data := #[] }, .slice none 0 0, .slice none 0 0] 32)).cell? ⟨w.heap.size, 2, none⟩ = some (.slice none 0 0) := World.cell?_alloc_at _ _ _ _ rfl
  have z3 : ((w.drewN m).alloc (.cells #[.int .u64 0, .string { data := #[] }, .slice none 0 0, .slice none 0 0] 32)).cell? ⟨w.heap.size, 3, none⟩ = some (.slice none 0 0) := World.cell?_alloc_at _ _ _ _ rfl
  refine ⟨_, rfl, ?_, ?_, ?_, ?_, ?_, ?_⟩
  · exact (((((below_drewN _ w m).alloc (Nat.le_refl _) _).setCell (Nat.le_refl _) _).setCell (Nat.le_refl _) _).setCell (Nat.le_refl _) _).setCell (Nat.le_refl _) _
  · simp
  all_goals simp [go_sem, z0, z1, z2, z3]

def GetR (w : World) (x : BitVec 64 × Int) (e : Ending) (w' : World) : Prop := e = .returned (.tuple #[U x.1, .int .i64 x.2]) ∧ Below w.heap.size w w'

/-- The contract of tree.get for structs of St d. -/
def GetIH (s : Schema) (sa : Option Addr) (sn sc : Nat) (d : Nat) : Prop := ∀ (t : Int) (v : St d) (cs : List Value) (p : Int) (rest : List Int) (b off m c : Nat) (w : World), Sch w (.slice sa sn sc) s → RdS d w cs v →
    m = rest.length + 1 → Ints w (.slice (some ⟨b, off, none⟩) m c) (p :: rest) →
    Calls Tryd.prog 79 #[.slice sa sn sc, .int .i64 t, .agg cs.toArray, .slice (some ⟨b, off, none⟩) m c] w (GetR w (getT s d t v (p :: rest)))
end STrGetA

section STrGKA
open Go.RowKit

set_option maxRecDepth 100000 in
set_option maxHeartbeats 40000000 in
theorem get_k0 (s : Schema) (sa : Option Addr) (sn sc : Nat) (d : Nat) (ihd : GetIH s sa sn sc d) : ∀ (t : Int) (v : St (d + 1)) (cs : List Value) (p : Int) (rest : List Int) (b off m c : Nat) (w : World), Sch w (.slice sa sn sc) s → RdS (d + 1) w cs v →
    m = rest.length + 1 → Ints w (.slice (some ⟨b, off, none⟩) m c) (p :: rest) → (p < 0 ∨ (Node.kids v).length ≤ p.toNat) →
    Calls Tryd.prog 79 #[.slice sa sn sc, .int .i64 t, .agg cs.toArray, .slice (some ⟨b, off, none⟩) m c] w (GetR w (getT s (d + 1) t v (p :: rest))) := by
  intro t v cs p rest b off m c w hs h hm hp hK
  have ih : Hid (∀ (t : Int) (v : St d) (cs : List Value) (p : Int) (rest : List Int) (b off m c : Nat) (w : World), Sch w (.slice sa sn sc) s → RdS d w cs v → m = rest.length + 1 → Ints w (.slice (some ⟨b, off, none⟩) m c) (p :: rest) → Calls Tryd.prog 79 #[.slice sa sn sc, .int .i64 t, .agg cs.toArray, .slice (some ⟨b, off, none⟩) m c] w (GetR w (getT s d t v (p :: rest)))) := hid ihd
  obtain ⟨a2, p2, a, cap, rfl, hbs, hn, hk, hnm, hkm⟩ := RdN.open h
  clear h hn
  obtain ⟨N, hN⟩ : ∃ N, N = (Node.kids v).length := ⟨_, rfl⟩
  rw [← hN] at hk hkm hK ⊢
  have HN := hid hN
  clear hN
  obtain ⟨o2, ho2, htail⟩ := Ints.behind hp hm
  obtain ⟨c9, hc9⟩ : ∃ x, c - 1 = x := ⟨_, rfl⟩
  rw [hc9] at htail
  obtain ⟨n, hnl⟩ : ∃ n, n = rest.length := ⟨_, rfl⟩
  rw [← hnl] at hm htail
  have Hn := hid hnl
  clear hnl
  subst hm
  obtain ⟨b', off', c', e, h2, h3, h4, h5⟩ := Row.cons hp (by simp)
  have h6 := hp.most
  simp only [Value.slice.injEq, Option.some.injEq, Addr.mk.injEq] at e
  obtain ⟨⟨rfl, rfl, _⟩, em, rfl⟩ := e
  clear em
  have c0 : w.cell? ⟨b, off, none⟩ = some (.int .i64 p) := h5 0 (by simp)
  clear h5 hp
  obtain ⟨w0, hw0, hb0, hlt0, hbox0⟩ := boxed w #[.slice sa sn sc] 27
  have s0 : w0.cell? ⟨w.heap.size, 0, none⟩ = some (.slice sa sn sc) := hbox0 0
  obtain ⟨w1, hw1, hb1, hlt1, hbox⟩ := boxed w0 #[U (Node.num v), .string (Node.bytes v), .slice a2 (Node.nums v).length p2, .slice a N cap] 32
  have x3 : w1.cell? ⟨w0.heap.size, 3, none⟩ = some (.slice a N cap) := hbox 3
  have c1 : w1.cell? ⟨b, off, none⟩ = some (.int .i64 p) := (hb1.cell (Nat.lt_of_lt_of_le h4 hb0.size)).trans ((hb0.cell h4).trans c0)
  have s1 : w1.cell? ⟨w.heap.size, 0, none⟩ = some (.slice sa sn sc) := (hb1.cell hlt0).trans s0
  have hb01 := via hb0 hb1
  have hs1 := hs.below hb01 (Nat.le_refl _)
  have hk1 := hk.below (kept_N (kept_S d)) hb01 (Nat.le_refl _)
  have ht1 := htail.below hb01 (Nat.le_refl _)
  clear hbox hbox0 hs hk htail c0 s0
  have hn1 : (1 : Int) ≤ (n : Int) + 1 := by omega
  have h41 : b < w1.heap.size := Nat.lt_of_lt_of_le (Nat.lt_of_lt_of_le h4 hb0.size) hb1.size
  by_cases hneg : p < 0
  · have Hg := hid (show getT s (d + 1) t v (p :: rest) = (0#64, 1) by rw [getT]; exact if_pos hneg)
    have hd : decide (p < 0) = true := decide_eq_true hneg
    clear hneg
    rw [Hg.out]
    go_enter Tryd.func79, Tryd.ntmps79
    go_wp2_with fail
    clear hw0 hw1
    go_quiet (fail)
    go_wp2_with fail
    go_returns
    exact ⟨rfl, hb01.trans (below_drewN _ _ _)⟩
  · obtain ⟨i, rfl⟩ : ∃ i : Nat, p = i := ⟨p.toNat, by omega⟩
    by_cases hi : i < N
    · exfalso; rw [Int.toNat_natCast] at hK; omega
    · have Hg := hid (show getT s (d + 1) t v ((i : Int) :: rest) = (0#64, 1) by
        rw [getT, List.headD_cons, if_neg hneg, Int.toNat_natCast, List.getElem?_eq_none (by rw [← HN.out]; omega)])
      have hd : decide ((i : Int) < 0) = false := decide_eq_false hneg
      have hd2 : decide (N ≤ i) = true := decide_eq_true (by omega)
      clear hneg hi
      rw [Hg.out]
      go_enter Tryd.func79, Tryd.ntmps79
      go_wp2_with fail
      clear hw0 hw1
      go_quiet (fail)
      go_wp2_with fail
      go_returns
      exact ⟨rfl, hb01.trans (below_drewN _ _ _)⟩

set_option maxRecDepth 100000 in
set_option maxHeartbeats 40000000 in
theorem get_k1 (s : Schema) (sa : Option Addr) (sn sc : Nat) (d : Nat) (ihd : GetIH s sa sn sc d) : ∀ (t : Int) (v : St (d + 1)) (cs : List Value) (p : Int) (rest : List Int) (b off m c : Nat) (w : World), Sch w (.slice sa sn sc) s → RdS (d + 1) w cs v →
    m = rest.length + 1 → Ints w (.slice (some ⟨b, off, none⟩) m c) (p :: rest) → (0 ≤ p ∧ p.toNat < (Node.kids v).length ∧ (fieldP s t p.toNat).1 = 1) →
    Calls Tryd.prog 79 #[.slice sa sn sc, .int .i64 t, .agg cs.toArray, .slice (some ⟨b, off, none⟩) m c] w (GetR w (getT s (d + 1) t v (p :: rest))) := by
  intro t v cs p rest b off m c w hs h hm hp hK
  have ih : Hid (∀ (t : Int) (v : St d) (cs : List Value) (p : Int) (rest : List Int) (b off m c : Nat) (w : World), Sch w (.slice sa sn sc) s → RdS d w cs v → m = rest.length + 1 → Ints w (.slice (some ⟨b, off, none⟩) m c) (p :: rest) → Calls Tryd.prog 79 #[.slice sa sn sc, .int .i64 t, .agg cs.toArray, .slice (some ⟨b, off, none⟩) m c] w (GetR w (getT s d t v (p :: rest)))) := hid ihd
  obtain ⟨a2, p2, a, cap, rfl, hbs, hn, hk, hnm, hkm⟩ := RdN.open h
  clear h hn
  obtain ⟨N, hN⟩ : ∃ N, N = (Node.kids v).length := ⟨_, rfl⟩
  rw [← hN] at hk hkm hK ⊢
  have HN := hid hN
  clear hN
  obtain ⟨o2, ho2, htail⟩ := Ints.behind hp hm
  obtain ⟨c9, hc9⟩ : ∃ x, c - 1 = x := ⟨_, rfl⟩
  rw [hc9] at htail
  obtain ⟨n, hnl⟩ : ∃ n, n = rest.length := ⟨_, rfl⟩
  rw [← hnl] at hm htail
  have Hn := hid hnl
  clear hnl
  subst hm
  obtain ⟨b', off', c', e, h2, h3, h4, h5⟩ := Row.cons hp (by simp)
  have h6 := hp.most
  simp only [Value.slice.injEq, Option.some.injEq, Addr.mk.injEq] at e
  obtain ⟨⟨rfl, rfl, _⟩, em, rfl⟩ := e
  clear em
  have c0 : w.cell? ⟨b, off, none⟩ = some (.int .i64 p) := h5 0 (by simp)
  clear h5 hp
  obtain ⟨w0, hw0, hb0, hlt0, hbox0⟩ := boxed w #[.slice sa sn sc] 27
  have s0 : w0.cell? ⟨w.heap.size, 0, none⟩ = some (.slice sa sn sc) := hbox0 0
  obtain ⟨w1, hw1, hb1, hlt1, hbox⟩ := boxed w0 #[U (Node.num v), .string (Node.bytes v), .slice a2 (Node.nums v).length p2, .slice a N cap] 32
  have x3 : w1.cell? ⟨w0.heap.size, 3, none⟩ = some (.slice a N cap) := hbox 3
  have c1 : w1.cell? ⟨b, off, none⟩ = some (.int .i64 p) := (hb1.cell (Nat.lt_of_lt_of_le h4 hb0.size)).trans ((hb0.cell h4).trans c0)
  have s1 : w1.cell? ⟨w.heap.size, 0, none⟩ = some (.slice sa sn sc) := (hb1.cell hlt0).trans s0
  have hb01 := via hb0 hb1
  have hs1 := hs.below hb01 (Nat.le_refl _)
  have hk1 := hk.below (kept_N (kept_S d)) hb01 (Nat.le_refl _)
  have ht1 := htail.below hb01 (Nat.le_refl _)
  clear hbox hbox0 hs hk htail c0 s0
  have hn1 : (1 : Int) ≤ (n : Int) + 1 := by omega
  have h41 : b < w1.heap.size := Nat.lt_of_lt_of_le (Nat.lt_of_lt_of_le h4 hb0.size) hb1.size
  by_cases hneg : p < 0
  · exact absurd hK.1 (by omega)
  · obtain ⟨i, rfl⟩ : ∃ i : Nat, p = i := ⟨p.toNat, by omega⟩
    have hKk := hK.2.2
    rw [Int.toNat_natCast] at hKk
    have hi : i < N := by have := hK.2.1; rw [Int.toNat_natCast] at this; exact this
    clear hK
    have hKi := hid hKk
    clear hKk
    obtain ⟨fk, hfk⟩ := get_lt (l := Node.kids v) (i := i) (by rw [← HN.out]; exact hi)
    obtain ⟨bf, of, a4, p4, a5, p5, rfl, hbb, q0, q1, q2, q3, hfb, hfn, hfkk, _, hfnn, hfm⟩ := Kids.at_ hk1 hfk
    obtain ⟨M, hM⟩ : ∃ M, M = fk.kids.length := ⟨_, rfl⟩
    obtain ⟨R, hR⟩ : ∃ R, R = fk.nums.length := ⟨_, rfl⟩
    rw [← hM] at hfkk hfm q3
    rw [← hR] at hfnn q2
    have hfn' : Row w1 1 (.slice a4 R p4) fk.nums.length (fk.nums.map U) := by rw [hR]; exact hfn
    have HM := hid hM
    have HR := hid hR
    have Hg := hid (show getT s (d + 1) t v ((i : Int) :: rest) = getF s (fun x r => getT s d (fieldP s t i).2 x r) (fieldP s t i).1 (fieldP s t i).2 fk rest by
      rw [getT, List.headD_cons, if_neg hneg, Int.toNat_natCast, hfk]; rfl)
    have hd : decide ((i : Int) < 0) = false := decide_eq_false hneg
    have hd2 : decide (N ≤ i) = false := decide_eq_false (by omega)
    clear hM hR hfk hfn hneg hk1
    rw [Hg.out]
    have Hkind := fun W (hW : Below w1.heap.size w1 W) => kind_any s (.slice sa sn sc) t i W (hs1.below hW (Nat.le_refl _))
    have Htype := fun W (hW : Below w1.heap.size w1 W) => type_any s (.slice sa sn sc) t i W (hs1.below hW (Nat.le_refl _))
    generalize (fieldP s t i).1 = kd at *
    generalize (fieldP s t i).2 = ty at *
    go_enter Tryd.func79, Tryd.ntmps79
    go_wp2_with fail
    go_quiet (fail)
    go_wp2_with fail
    have hzp : ∀ nq B j, B < w1.heap.size → ((w1.drewN nq).alloc (.cells #[.int .u64 0, .string { data := #[] }, .slice none 0 0, .slice none 0 0] 32)).cell? ⟨B, j, none⟩ = w1.cell? ⟨B, j, none⟩ := fun nq B j h => World.cell?_alloc_past _ _ _ h
    have z0 : ∀ nq, ((w1.drewN nq).alloc (.cells #[.int .u64 0, .string { data := #[] }, .slice none 0 0, .slice none 0 0] 32)).cell? ⟨w1.heap.size, 0, none⟩ = some (.int .u64 0) := fun nq => World.cell?_alloc_at _ _ _ _ rfl
    have z1 : ∀ nq, ((w1.drewN nq).alloc (.cells #[.int .u64 0, .string { data := #[] }, .slice none 0 0, .slice none 0 0] 32)).cell? ⟨w1.heap.size, 1, none⟩ = some (.string { data := #[] }) := fun nq => World.cell?_alloc_at _ _ _ _ rfl
    have z2 : ∀ nq, ((w1.drewN nq).alloc (.cells #[.int .u64 0, .string { data := #[] }, .slice none 0 0, .slice none 0 0] 32)).cell? ⟨w1.heap.size, 2, none⟩ = some (.slice none 0 0) := fun nq => World.cell?_alloc_at _ _ _ _ rfl
    have z3 : ∀ nq, ((w1.drewN nq).alloc (.cells #[.int .u64 0, .string { data := #[] }, .slice none 0 0, .slice none 0 0] 32)).cell? ⟨w1.heap.size, 3, none⟩ = some (.slice none 0 0) := fun nq => World.cell?_alloc_at _ _ _ _ rfl
    have zf : ∀ nq j, ((w1.drewN nq).alloc (.cells #[.int .u64 0, .string { data := #[] }, .slice none 0 0, .slice none 0 0] 32)).frozen? ⟨w1.heap.size, j, none⟩ = false := fun nq j => World.frozen?_alloc_at _ _ _ _ rfl
    have zc := fun nq => (hzp nq b off h41).trans c1
    have zq0 := fun nq => (hzp nq bf (of + i * 4) hbb).trans q0
    have zq1 := fun nq => (hzp nq bf (of + i * 4 + 1) hbb).trans q1
    have zq2 := fun nq => (hzp nq bf (of + i * 4 + 2) hbb).trans q2
    have zq3 := fun nq => (hzp nq bf (of + i * 4 + 3) hbb).trans q3
    have zx := fun nq => (hzp nq w0.heap.size 3 hlt1).trans x3
    have hneb : b ≠ w1.heap.size := by omega
    have zs : ∀ nq, ((((((w1.drewN nq).alloc (.cells #[.int .u64 0, .string { data := #[] }, .slice none 0 0, .slice none 0 0] 32)).setCell ⟨w1.heap.size, 0, none⟩ (U fk.num)).setCell ⟨w1.heap.size, 1, none⟩ (.string fk.bytes)).setCell ⟨w1.heap.size, 2, none⟩ (.slice a4 R p4)).setCell ⟨w1.heap.size, 3, none⟩ (.slice a5 M p5)).cell? ⟨b, off, none⟩ = some (.int .i64 i) := fun nq => by
      rw [World.cell?_setCell_other _ _ _ _ (by simp), World.cell?_setCell_other _ _ _ _ (by simp), World.cell?_setCell_other _ _ _ _ (by simp), World.cell?_setCell_other _ _ _ _ (by simp)]
      exact zc nq
    clear hzp
    go_region
    obtain ⟨W, hW, hbW, ltW, d0, d1, d2, d3⟩ := tree_copy w1 (nq + 1) (U fk.num) (.string fk.bytes) (.slice a4 R p4) (.slice a5 M p5)
    rw [hW]
    clear zc zq0 zq1 zq2 zq3 zx zs z0 z1 z2 z3 zf hW hw0 hw1 q0 q1 q2 q3 hneb x3 c1 hd hd2
    have sW : W.cell? ⟨w.heap.size, 0, none⟩ = some (.slice sa sn sc) := (hbW.cell (Nat.lt_of_lt_of_le hlt0 hb1.size)).trans s1
    have HT := Htype W hbW
    go_wp2_with (first
      | (go_at_call 35; refine HT.mono ?_; rintro r1 W2 ⟨rfl, hb2⟩; obtain ⟨W3, hW3, hb3, lt3, box3⟩ := boxed W2 #[.int .i64 ty] 3; have i3 : W3.cell? ⟨W2.heap.size, 0, none⟩ = some (.int .i64 ty) := box3 0; have hb23 : Below W.heap.size W W3 := hb2.trans (hb3.mono hb2.size); have s3 : W3.cell? ⟨w.heap.size, 0, none⟩ = some (.slice sa sn sc) := (hb23.cell (Nat.lt_of_lt_of_le (Nat.lt_of_lt_of_le hlt0 hb1.size) hbW.size)).trans sW; have HK := Hkind W3 (hbW.trans (hb23.mono hbW.size))))
    ((refine HK.mono ?_); rintro r1 W4 ⟨rfl, hb4⟩)
    have hb24 : Below W.heap.size W W4 := hb23.trans (hb4.mono hb23.size)
    have hb14 : Below w1.heap.size w1 W4 := hbW.trans (hb24.mono hbW.size)
    replace s3 := (hb4.cell (Nat.lt_of_lt_of_le (Nat.lt_of_lt_of_le (Nat.lt_of_lt_of_le hlt0 hb1.size) hbW.size) hb23.size)).trans s3
    replace i3 := (hb4.cell lt3).trans i3
    replace d0 := (hb24.cell ltW).trans d0
    replace d1 := (hb24.cell ltW).trans d1
    replace d2 := (hb24.cell ltW).trans d2
    replace d3 := (hb24.cell ltW).trans d3
    have hp4 := ht1.below hb14 (Nat.le_refl _)
    have hk4 := hfkk.below (kept_S d) hb14 (Nat.le_refl _)
    have hn4 := hfn'.below hb14 (Nat.le_refl _)
    have hs4 := hs1.below hb14 (Nat.le_refl _)
    have hB4 := hb01.trans (hb14.mono hb01.size)
    generalize w1.heap.size = D at d0 d1 d2 d3 ⊢
    generalize W2.heap.size = Q at *
    clear hW3 hb3 box3 hb23 HK HT hbW ltW sW s1 hs1 ht1 hb01 hb24 hb14 hb4 hb2 Hkind Htype hbb hfkk hfn'
    have HpB := pickB_any (.pointer (some ⟨D, 0, none⟩)) fk.bytes.size (byteV fk.bytes) rest (some ⟨b, o2, none⟩) n c9 W4 hfb Hn.out hp4 (fun j hj => getB_any D fk.bytes j hj W4 d1)
    have HpN := pickN_any (.pointer (some ⟨D, 0, none⟩)) R (fun j => fk.nums.getD j 0#64) rest (some ⟨b, o2, none⟩) n c9 W4 hfnn Hn.out hp4 (fun j hj => getN_any D fk.nums a4 R p4 HR.out j (by rw [← HR.out]; exact hj) W4 d2 hn4)
    have HpK := pickK_any (.pointer (some ⟨w.heap.size, 0, none⟩)) (.pointer (some ⟨Q, 0, none⟩)) M (fun _ => BitVec.ofNat 64 (typeL s ty).length) rest (some ⟨b, o2, none⟩) n c9 W4 hfm Hn.out hp4 (fun j hj => getK_any w.heap.size Q s (.slice sa sn sc) ty j W4 s3 i3 hs4)
    have HpKd := fun k => pickK_any (.pointer (some ⟨w.heap.size, 0, none⟩)) (.pointer (some ⟨Q, 0, none⟩)) M (fun _ => BitVec.ofNat 64 (typeL s ty).length) rest (some ⟨b, o2, none⟩) n c9 (W4.drewN k) hfm Hn.out hp4.drewN (fun j hj => getK_any w.heap.size Q s (.slice sa sn sc) ty j (W4.drewN k) s3 i3 hs4.drewN)
    have hKo := hKi.out
    clear hKi
    subst hKo
    by_cases hr : rest = []
    · have hr' := hr
      obtain rfl : n = 0 := by rw [Hn.out, hr]; rfl
      have Hv := hid (show getF s (fun x r => getT s d ty x r) 1 ty fk rest = (fk.num, 0) by simp only [getF]; rw [if_pos trivial, if_pos hr])
      go_wp2_with fail
      go_returns
      exact ⟨by rw [Hv.out]; rfl, hB4⟩
    · have hr' := hr
      have hn0 : 0 < n := by rw [Hn.out]; exact List.length_pos_iff.2 hr
      have hnd : decide ((0 : Int) < (n : Int)) = true := decide_eq_true (by omega)
      have Hv := hid (show getF s (fun x r => getT s d ty x r) 1 ty fk rest = (0#64, 24) by simp only [getF]; rw [if_pos trivial, if_neg hr])
      go_wp2_with fail
      go_returns
      exact ⟨by rw [Hv.out]; rfl, hB4⟩

set_option maxRecDepth 100000 in
set_option maxHeartbeats 40000000 in
theorem get_k2 (s : Schema) (sa : Option Addr) (sn sc : Nat) (d : Nat) (ihd : GetIH s sa sn sc d) : ∀ (t : Int) (v : St (d + 1)) (cs : List Value) (p : Int) (rest : List Int) (b off m c : Nat) (w : World), Sch w (.slice sa sn sc) s → RdS (d + 1) w cs v →
    m = rest.length + 1 → Ints w (.slice (some ⟨b, off, none⟩) m c) (p :: rest) → (0 ≤ p ∧ p.toNat < (Node.kids v).length ∧ (fieldP s t p.toNat).1 = 2) →
    Calls Tryd.prog 79 #[.slice sa sn sc, .int .i64 t, .agg cs.toArray, .slice (some ⟨b, off, none⟩) m c] w (GetR w (getT s (d + 1) t v (p :: rest))) := by
  intro t v cs p rest b off m c w hs h hm hp hK
  have ih : Hid (∀ (t : Int) (v : St d) (cs : List Value) (p : Int) (rest : List Int) (b off m c : Nat) (w : World), Sch w (.slice sa sn sc) s → RdS d w cs v → m = rest.length + 1 → Ints w (.slice (some ⟨b, off, none⟩) m c) (p :: rest) → Calls Tryd.prog 79 #[.slice sa sn sc, .int .i64 t, .agg cs.toArray, .slice (some ⟨b, off, none⟩) m c] w (GetR w (getT s d t v (p :: rest)))) := hid ihd
  obtain ⟨a2, p2, a, cap, rfl, hbs, hn, hk, hnm, hkm⟩ := RdN.open h
  clear h hn
  obtain ⟨N, hN⟩ : ∃ N, N = (Node.kids v).length := ⟨_, rfl⟩
  rw [← hN] at hk hkm hK ⊢
  have HN := hid hN
  clear hN
  obtain ⟨o2, ho2, htail⟩ := Ints.behind hp hm
  obtain ⟨c9, hc9⟩ : ∃ x, c - 1 = x := ⟨_, rfl⟩
  rw [hc9] at htail
  obtain ⟨n, hnl⟩ : ∃ n, n = rest.length := ⟨_, rfl⟩
  rw [← hnl] at hm htail
  have Hn := hid hnl
  clear hnl
  subst hm
  obtain ⟨b', off', c', e, h2, h3, h4, h5⟩ := Row.cons hp (by simp)
  have h6 := hp.most
  simp only [Value.slice.injEq, Option.some.injEq, Addr.mk.injEq] at e
  obtain ⟨⟨rfl, rfl, _⟩, em, rfl⟩ := e
  clear em
  have c0 : w.cell? ⟨b, off, none⟩ = some (.int .i64 p) := h5 0 (by simp)
  clear h5 hp
  obtain ⟨w0, hw0, hb0, hlt0, hbox0⟩ := boxed w #[.slice sa sn sc] 27
  have s0 : w0.cell? ⟨w.heap.size, 0, none⟩ = some (.slice sa sn sc) := hbox0 0
  obtain ⟨w1, hw1, hb1, hlt1, hbox⟩ := boxed w0 #[U (Node.num v), .string (Node.bytes v), .slice a2 (Node.nums v).length p2, .slice a N cap] 32
  have x3 : w1.cell? ⟨w0.heap.size, 3, none⟩ = some (.slice a N cap) := hbox 3
  have c1 : w1.cell? ⟨b, off, none⟩ = some (.int .i64 p) := (hb1.cell (Nat.lt_of_lt_of_le h4 hb0.size)).trans ((hb0.cell h4).trans c0)
  have s1 : w1.cell? ⟨w.heap.size, 0, none⟩ = some (.slice sa sn sc) := (hb1.cell hlt0).trans s0
  have hb01 := via hb0 hb1
  have hs1 := hs.below hb01 (Nat.le_refl _)
  have hk1 := hk.below (kept_N (kept_S d)) hb01 (Nat.le_refl _)
  have ht1 := htail.below hb01 (Nat.le_refl _)
  clear hbox hbox0 hs hk htail c0 s0
  have hn1 : (1 : Int) ≤ (n : Int) + 1 := by omega
  have h41 : b < w1.heap.size := Nat.lt_of_lt_of_le (Nat.lt_of_lt_of_le h4 hb0.size) hb1.size
  by_cases hneg : p < 0
  · exact absurd hK.1 (by omega)
  · obtain ⟨i, rfl⟩ : ∃ i : Nat, p = i := ⟨p.toNat, by omega⟩
    have hKk := hK.2.2
    rw [Int.toNat_natCast] at hKk
    have hi : i < N := by have := hK.2.1; rw [Int.toNat_natCast] at this; exact this
    clear hK
    have hKi := hid hKk
    clear hKk
    obtain ⟨fk, hfk⟩ := get_lt (l := Node.kids v) (i := i) (by rw [← HN.out]; exact hi)
    obtain ⟨bf, of, a4, p4, a5, p5, rfl, hbb, q0, q1, q2, q3, hfb, hfn, hfkk, _, hfnn, hfm⟩ := Kids.at_ hk1 hfk
    obtain ⟨M, hM⟩ : ∃ M, M = fk.kids.length := ⟨_, rfl⟩
    obtain ⟨R, hR⟩ : ∃ R, R = fk.nums.length := ⟨_, rfl⟩
    rw [← hM] at hfkk hfm q3
    rw [← hR] at hfnn q2
    have hfn' : Row w1 1 (.slice a4 R p4) fk.nums.length (fk.nums.map U) := by rw [hR]; exact hfn
    have HM := hid hM
    have HR := hid hR
    have Hg := hid (show getT s (d + 1) t v ((i : Int) :: rest) = getF s (fun x r => getT s d (fieldP s t i).2 x r) (fieldP s t i).1 (fieldP s t i).2 fk rest by
      rw [getT, List.headD_cons, if_neg hneg, Int.toNat_natCast, hfk]; rfl)
    have hd : decide ((i : Int) < 0) = false := decide_eq_false hneg
    have hd2 : decide (N ≤ i) = false := decide_eq_false (by omega)
    clear hM hR hfk hfn hneg hk1
    rw [Hg.out]
    have Hkind := fun W (hW : Below w1.heap.size w1 W) => kind_any s (.slice sa sn sc) t i W (hs1.below hW (Nat.le_refl _))
    have Htype := fun W (hW : Below w1.heap.size w1 W) => type_any s (.slice sa sn sc) t i W (hs1.below hW (Nat.le_refl _))
    generalize (fieldP s t i).1 = kd at *
    generalize (fieldP s t i).2 = ty at *
    go_enter Tryd.func79, Tryd.ntmps79
    go_wp2_with fail
    go_quiet (fail)
    go_wp2_with fail
    have hzp : ∀ nq B j, B < w1.heap.size → ((w1.drewN nq).alloc (.cells #[.int .u64 0, .string { data := #[] }, .slice none 0 0, .slice none 0 0] 32)).cell? ⟨B, j, none⟩ = w1.cell? ⟨B, j, none⟩ := fun nq B j h => World.cell?_alloc_past _ _ _ h
    have z0 : ∀ nq, ((w1.drewN nq).alloc (.cells #[.int .u64 0, .string { data := #[] }, .slice none 0 0, .slice none 0 0] 32)).cell? ⟨w1.heap.size, 0, none⟩ = some (.int .u64 0) := fun nq => World.cell?_alloc_at _ _ _ _ rfl
    have z1 : ∀ nq, ((w1.drewN nq).alloc (.cells #[.int .u64 0, .string { data := #[] }, .slice none 0 0, .slice none 0 0] 32)).cell? ⟨w1.heap.size, 1, none⟩ = some (.string { data := #[] }) := fun nq => World.cell?_alloc_at _ _ _ _ rfl
    have z2 : ∀ nq, ((w1.drewN nq).alloc (.cells #[.int .u64 0, .string { data := #[] }, .slice none 0 0, .slice none 0 0] 32)).cell? ⟨w1.heap.size, 2, none⟩ = some (.slice none 0 0) := fun nq => World.cell?_alloc_at _ _ _ _ rfl
    have z3 : ∀ nq, ((w1.drewN nq).alloc (.cells #[.int .u64 0, .string { data := #[] }, .slice none 0 0, .slice none 0 0] 32)).cell? ⟨w1.heap.size, 3, none⟩ = some (.slice none 0 0) := fun nq => World.cell?_alloc_at _ _ _ _ rfl
    have zf : ∀ nq j, ((w1.drewN nq).alloc (.cells #[.int .u64 0, .string { data := #[] }, .slice none 0 0, .slice none 0 0] 32)).frozen? ⟨w1.heap.size, j, none⟩ = false := fun nq j => World.frozen?_alloc_at _ _ _ _ rfl
    have zc := fun nq => (hzp nq b off h41).trans c1
    have zq0 := fun nq => (hzp nq bf (of + i * 4) hbb).trans q0
    have zq1 := fun nq => (hzp nq bf (of + i * 4 + 1) hbb).trans q1
    have zq2 := fun nq => (hzp nq bf (of + i * 4 + 2) hbb).trans q2
    have zq3 := fun nq => (hzp nq bf (of + i * 4 + 3) hbb).trans q3
    have zx := fun nq => (hzp nq w0.heap.size 3 hlt1).trans x3
    have hneb : b ≠ w1.heap.size := by omega
    have zs : ∀ nq, ((((((w1.drewN nq).alloc (.cells #[.int .u64 0, .string { data := #[] }, .slice none 0 0, .slice none 0 0] 32)).setCell ⟨w1.heap.size, 0, none⟩ (U fk.num)).setCell ⟨w1.heap.size, 1, none⟩ (.string fk.bytes)).setCell ⟨w1.heap.size, 2, none⟩ (.slice a4 R p4)).setCell ⟨w1.heap.size, 3, none⟩ (.slice a5 M p5)).cell? ⟨b, off, none⟩ = some (.int .i64 i) := fun nq => by
      rw [World.cell?_setCell_other _ _ _ _ (by simp), World.cell?_setCell_other _ _ _ _ (by simp), World.cell?_setCell_other _ _ _ _ (by simp), World.cell?_setCell_other _ _ _ _ (by simp)]
      exact zc nq
    clear hzp
    go_region
    obtain ⟨W, hW, hbW, ltW, d0, d1, d2, d3⟩ := tree_copy w1 (nq + 1) (U fk.num) (.string fk.bytes) (.slice a4 R p4) (.slice a5 M p5)
    rw [hW]
    clear zc zq0 zq1 zq2 zq3 zx zs z0 z1 z2 z3 zf hW hw0 hw1 q0 q1 q2 q3 hneb x3 c1 hd hd2
    have sW : W.cell? ⟨w.heap.size, 0, none⟩ = some (.slice sa sn sc) := (hbW.cell (Nat.lt_of_lt_of_le hlt0 hb1.size)).trans s1
    have HT := Htype W hbW
    go_wp2_with (first
      | (go_at_call 35; refine HT.mono ?_; rintro r1 W2 ⟨rfl, hb2⟩; obtain ⟨W3, hW3, hb3, lt3, box3⟩ := boxed W2 #[.int .i64 ty] 3; have i3 : W3.cell? ⟨W2.heap.size, 0, none⟩ = some (.int .i64 ty) := box3 0; have hb23 : Below W.heap.size W W3 := hb2.trans (hb3.mono hb2.size); have s3 : W3.cell? ⟨w.heap.size, 0, none⟩ = some (.slice sa sn sc) := (hb23.cell (Nat.lt_of_lt_of_le (Nat.lt_of_lt_of_le hlt0 hb1.size) hbW.size)).trans sW; have HK := Hkind W3 (hbW.trans (hb23.mono hbW.size))))
    ((refine HK.mono ?_); rintro r1 W4 ⟨rfl, hb4⟩)
    have hb24 : Below W.heap.size W W4 := hb23.trans (hb4.mono hb23.size)
    have hb14 : Below w1.heap.size w1 W4 := hbW.trans (hb24.mono hbW.size)
    replace s3 := (hb4.cell (Nat.lt_of_lt_of_le (Nat.lt_of_lt_of_le (Nat.lt_of_lt_of_le hlt0 hb1.size) hbW.size) hb23.size)).trans s3
    replace i3 := (hb4.cell lt3).trans i3
    replace d0 := (hb24.cell ltW).trans d0
    replace d1 := (hb24.cell ltW).trans d1
    replace d2 := (hb24.cell ltW).trans d2
    replace d3 := (hb24.cell ltW).trans d3
    have hp4 := ht1.below hb14 (Nat.le_refl _)
    have hk4 := hfkk.below (kept_S d) hb14 (Nat.le_refl _)
    have hn4 := hfn'.below hb14 (Nat.le_refl _)
    have hs4 := hs1.below hb14 (Nat.le_refl _)
    have hB4 := hb01.trans (hb14.mono hb01.size)
    generalize w1.heap.size = D at d0 d1 d2 d3 ⊢
    generalize W2.heap.size = Q at *
    clear hW3 hb3 box3 hb23 HK HT hbW ltW sW s1 hs1 ht1 hb01 hb24 hb14 hb4 hb2 Hkind Htype hbb hfkk hfn'
    have HpB := pickB_any (.pointer (some ⟨D, 0, none⟩)) fk.bytes.size (byteV fk.bytes) rest (some ⟨b, o2, none⟩) n c9 W4 hfb Hn.out hp4 (fun j hj => getB_any D fk.bytes j hj W4 d1)
    have HpN := pickN_any (.pointer (some ⟨D, 0, none⟩)) R (fun j => fk.nums.getD j 0#64) rest (some ⟨b, o2, none⟩) n c9 W4 hfnn Hn.out hp4 (fun j hj => getN_any D fk.nums a4 R p4 HR.out j (by rw [← HR.out]; exact hj) W4 d2 hn4)
    have HpK := pickK_any (.pointer (some ⟨w.heap.size, 0, none⟩)) (.pointer (some ⟨Q, 0, none⟩)) M (fun _ => BitVec.ofNat 64 (typeL s ty).length) rest (some ⟨b, o2, none⟩) n c9 W4 hfm Hn.out hp4 (fun j hj => getK_any w.heap.size Q s (.slice sa sn sc) ty j W4 s3 i3 hs4)
    have HpKd := fun k => pickK_any (.pointer (some ⟨w.heap.size, 0, none⟩)) (.pointer (some ⟨Q, 0, none⟩)) M (fun _ => BitVec.ofNat 64 (typeL s ty).length) rest (some ⟨b, o2, none⟩) n c9 (W4.drewN k) hfm Hn.out hp4.drewN (fun j hj => getK_any w.heap.size Q s (.slice sa sn sc) ty j (W4.drewN k) s3 i3 hs4.drewN)
    have hKo := hKi.out
    clear hKi
    subst hKo
    have Hv := hid (show getF s (fun x r => getT s d ty x r) 2 ty fk rest = pickV fk.bytes.size rest (byteV fk.bytes) by simp [getF])
    go_wp2_with (go_at_call 84; refine (HpB).mono ?_; rintro r5 W5 ⟨rfl, rfl⟩)
    go_returns
    exact ⟨by rw [Hv.out]; rfl, hB4⟩

set_option maxRecDepth 100000 in
set_option maxHeartbeats 40000000 in
theorem get_k3 (s : Schema) (sa : Option Addr) (sn sc : Nat) (d : Nat) (ihd : GetIH s sa sn sc d) : ∀ (t : Int) (v : St (d + 1)) (cs : List Value) (p : Int) (rest : List Int) (b off m c : Nat) (w : World), Sch w (.slice sa sn sc) s → RdS (d + 1) w cs v →
    m = rest.length + 1 → Ints w (.slice (some ⟨b, off, none⟩) m c) (p :: rest) → (0 ≤ p ∧ p.toNat < (Node.kids v).length ∧ (fieldP s t p.toNat).1 = 3) →
    Calls Tryd.prog 79 #[.slice sa sn sc, .int .i64 t, .agg cs.toArray, .slice (some ⟨b, off, none⟩) m c] w (GetR w (getT s (d + 1) t v (p :: rest))) := by
  intro t v cs p rest b off m c w hs h hm hp hK
  have ih : Hid (∀ (t : Int) (v : St d) (cs : List Value) (p : Int) (rest : List Int) (b off m c : Nat) (w : World), Sch w (.slice sa sn sc) s → RdS d w cs v → m = rest.length + 1 → Ints w (.slice (some ⟨b, off, none⟩) m c) (p :: rest) → Calls Tryd.prog 79 #[.slice sa sn sc, .int .i64 t, .agg cs.toArray, .slice (some ⟨b, off, none⟩) m c] w (GetR w (getT s d t v (p :: rest)))) := hid ihd
  obtain ⟨a2, p2, a, cap, rfl, hbs, hn, hk, hnm, hkm⟩ := RdN.open h
  clear h hn
  obtain ⟨N, hN⟩ : ∃ N, N = (Node.kids v).length := ⟨_, rfl⟩
  rw [← hN] at hk hkm hK ⊢
  have HN := hid hN
  clear hN
  obtain ⟨o2, ho2, htail⟩ := Ints.behind hp hm
  obtain ⟨c9, hc9⟩ : ∃ x, c - 1 = x := ⟨_, rfl⟩
  rw [hc9] at htail
  obtain ⟨n, hnl⟩ : ∃ n, n = rest.length := ⟨_, rfl⟩
  rw [← hnl] at hm htail
  have Hn := hid hnl
  clear hnl
  subst hm
  obtain ⟨b', off', c', e, h2, h3, h4, h5⟩ := Row.cons hp (by simp)
  have h6 := hp.most
  simp only [Value.slice.injEq, Option.some.injEq, Addr.mk.injEq] at e
  obtain ⟨⟨rfl, rfl, _⟩, em, rfl⟩ := e
  clear em
  have c0 : w.cell? ⟨b, off, none⟩ = some (.int .i64 p) := h5 0 (by simp)
  clear h5 hp
  obtain ⟨w0, hw0, hb0, hlt0, hbox0⟩ := boxed w #[.slice sa sn sc] 27
  have s0 : w0.cell? ⟨w.heap.size, 0, none⟩ = some (.slice sa sn sc) := hbox0 0
  obtain ⟨w1, hw1, hb1, hlt1, hbox⟩ := boxed w0 #[U (Node.num v), .string (Node.bytes v), .slice a2 (Node.nums v).length p2, .slice a N cap] 32
  have x3 : w1.cell? ⟨w0.heap.size, 3, none⟩ = some (.slice a N cap) := hbox 3
  have c1 : w1.cell? ⟨b, off, none⟩ = some (.int .i64 p) := (hb1.cell (Nat.lt_of_lt_of_le h4 hb0.size)).trans ((hb0.cell h4).trans c0)
  have s1 : w1.cell? ⟨w.heap.size, 0, none⟩ = some (.slice sa sn sc) := (hb1.cell hlt0).trans s0
  have hb01 := via hb0 hb1
  have hs1 := hs.below hb01 (Nat.le_refl _)
  have hk1 := hk.below (kept_N (kept_S d)) hb01 (Nat.le_refl _)
  have ht1 := htail.below hb01 (Nat.le_refl _)
  clear hbox hbox0 hs hk htail c0 s0
  have hn1 : (1 : Int) ≤ (n : Int) + 1 := by omega
  have h41 : b < w1.heap.size := Nat.lt_of_lt_of_le (Nat.lt_of_lt_of_le h4 hb0.size) hb1.size
  by_cases hneg : p < 0
  · exact absurd hK.1 (by omega)
  · obtain ⟨i, rfl⟩ : ∃ i : Nat, p = i := ⟨p.toNat, by omega⟩
    have hKk := hK.2.2
    rw [Int.toNat_natCast] at hKk
    have hi : i < N := by have := hK.2.1; rw [Int.toNat_natCast] at this; exact this
    clear hK
    have hKi := hid hKk
    clear hKk
    obtain ⟨fk, hfk⟩ := get_lt (l := Node.kids v) (i := i) (by rw [← HN.out]; exact hi)
    obtain ⟨bf, of, a4, p4, a5, p5, rfl, hbb, q0, q1, q2, q3, hfb, hfn, hfkk, _, hfnn, hfm⟩ := Kids.at_ hk1 hfk
    obtain ⟨M, hM⟩ : ∃ M, M = fk.kids.length := ⟨_, rfl⟩
    obtain ⟨R, hR⟩ : ∃ R, R = fk.nums.length := ⟨_, rfl⟩
    rw [← hM] at hfkk hfm q3
    rw [← hR] at hfnn q2
    have hfn' : Row w1 1 (.slice a4 R p4) fk.nums.length (fk.nums.map U) := by rw [hR]; exact hfn
    have HM := hid hM
    have HR := hid hR
    have Hg := hid (show getT s (d + 1) t v ((i : Int) :: rest) = getF s (fun x r => getT s d (fieldP s t i).2 x r) (fieldP s t i).1 (fieldP s t i).2 fk rest by
      rw [getT, List.headD_cons, if_neg hneg, Int.toNat_natCast, hfk]; rfl)
    have hd : decide ((i : Int) < 0) = false := decide_eq_false hneg
    have hd2 : decide (N ≤ i) = false := decide_eq_false (by omega)
    clear hM hR hfk hfn hneg hk1
    rw [Hg.out]
    have Hkind := fun W (hW : Below w1.heap.size w1 W) => kind_any s (.slice sa sn sc) t i W (hs1.below hW (Nat.le_refl _))
    have Htype := fun W (hW : Below w1.heap.size w1 W) => type_any s (.slice sa sn sc) t i W (hs1.below hW (Nat.le_refl _))
    generalize (fieldP s t i).1 = kd at *
    generalize (fieldP s t i).2 = ty at *
    go_enter Tryd.func79, Tryd.ntmps79
    go_wp2_with fail
    go_quiet (fail)
    go_wp2_with fail
    have hzp : ∀ nq B j, B < w1.heap.size → ((w1.drewN nq).alloc (.cells #[.int .u64 0, .string { data := #[] }, .slice none 0 0, .slice none 0 0] 32)).cell? ⟨B, j, none⟩ = w1.cell? ⟨B, j, none⟩ := fun nq B j h => World.cell?_alloc_past _ _ _ h
    have z0 : ∀ nq, ((w1.drewN nq).alloc (.cells #[.int .u64 0, .string { data := #[] }, .slice none 0 0, .slice none 0 0] 32)).cell? ⟨w1.heap.size, 0, none⟩ = some (.int .u64 0) := fun nq => World.cell?_alloc_at _ _ _ _ rfl
    have z1 : ∀ nq, ((w1.drewN nq).alloc (.cells #[.int .u64 0, .string { data := #[] }, .slice none 0 0, .slice none 0 0] 32)).cell? ⟨w1.heap.size, 1, none⟩ = some (.string { data := #[] }) := fun nq => World.cell?_alloc_at _ _ _ _ rfl
    have z2 : ∀ nq, ((w1.drewN nq).alloc (.cells #[.int .u64 0, .string { data := #[] }, .slice none 0 0, .slice none 0 0] 32)).cell? ⟨w1.heap.size, 2, none⟩ = some (.slice none 0 0) := fun nq => World.cell?_alloc_at _ _ _ _ rfl
    have z3 : ∀ nq, ((w1.drewN nq).alloc (.cells #[.int .u64 0, .string { data := #[] }, .slice none 0 0, .slice none 0 0] 32)).cell? ⟨w1.heap.size, 3, none⟩ = some (.slice none 0 0) := fun nq => World.cell?_alloc_at _ _ _ _ rfl
    have zf : ∀ nq j, ((w1.drewN nq).alloc (.cells #[.int .u64 0, .string { data := #[] }, .slice none 0 0, .slice none 0 0] 32)).frozen? ⟨w1.heap.size, j, none⟩ = false := fun nq j => World.frozen?_alloc_at _ _ _ _ rfl
    have zc := fun nq => (hzp nq b off h41).trans c1
    have zq0 := fun nq => (hzp nq bf (of + i * 4) hbb).trans q0
    have zq1 := fun nq => (hzp nq bf (of + i * 4 + 1) hbb).trans q1
    have zq2 := fun nq => (hzp nq bf (of + i * 4 + 2) hbb).trans q2
    have zq3 := fun nq => (hzp nq bf (of + i * 4 + 3) hbb).trans q3
    have zx := fun nq => (hzp nq w0.heap.size 3 hlt1).trans x3
    have hneb : b ≠ w1.heap.size := by omega
    have zs : ∀ nq, ((((((w1.drewN nq).alloc (.cells #[.int .u64 0, .string { data := #[] }, .slice none 0 0, .slice none 0 0] 32)).setCell ⟨w1.heap.size, 0, none⟩ (U fk.num)).setCell ⟨w1.heap.size, 1, none⟩ (.string fk.bytes)).setCell ⟨w1.heap.size, 2, none⟩ (.slice a4 R p4)).setCell ⟨w1.heap.size, 3, none⟩ (.slice a5 M p5)).cell? ⟨b, off, none⟩ = some (.int .i64 i) := fun nq => by
      rw [World.cell?_setCell_other _ _ _ _ (by simp), World.cell?_setCell_other _ _ _ _ (by simp), World.cell?_setCell_other _ _ _ _ (by simp), World.cell?_setCell_other _ _ _ _ (by simp)]
      exact zc nq
    clear hzp
    go_region
    obtain ⟨W, hW, hbW, ltW, d0, d1, d2, d3⟩ := tree_copy w1 (nq + 1) (U fk.num) (.string fk.bytes) (.slice a4 R p4) (.slice a5 M p5)
    rw [hW]
    clear zc zq0 zq1 zq2 zq3 zx zs z0 z1 z2 z3 zf hW hw0 hw1 q0 q1 q2 q3 hneb x3 c1 hd hd2
    have sW : W.cell? ⟨w.heap.size, 0, none⟩ = some (.slice sa sn sc) := (hbW.cell (Nat.lt_of_lt_of_le hlt0 hb1.size)).trans s1
    have HT := Htype W hbW
    go_wp2_with (first
      | (go_at_call 35; refine HT.mono ?_; rintro r1 W2 ⟨rfl, hb2⟩; obtain ⟨W3, hW3, hb3, lt3, box3⟩ := boxed W2 #[.int .i64 ty] 3; have i3 : W3.cell? ⟨W2.heap.size, 0, none⟩ = some (.int .i64 ty) := box3 0; have hb23 : Below W.heap.size W W3 := hb2.trans (hb3.mono hb2.size); have s3 : W3.cell? ⟨w.heap.size, 0, none⟩ = some (.slice sa sn sc) := (hb23.cell (Nat.lt_of_lt_of_le (Nat.lt_of_lt_of_le hlt0 hb1.size) hbW.size)).trans sW; have HK := Hkind W3 (hbW.trans (hb23.mono hbW.size))))
    ((refine HK.mono ?_); rintro r1 W4 ⟨rfl, hb4⟩)
    have hb24 : Below W.heap.size W W4 := hb23.trans (hb4.mono hb23.size)
    have hb14 : Below w1.heap.size w1 W4 := hbW.trans (hb24.mono hbW.size)
    replace s3 := (hb4.cell (Nat.lt_of_lt_of_le (Nat.lt_of_lt_of_le (Nat.lt_of_lt_of_le hlt0 hb1.size) hbW.size) hb23.size)).trans s3
    replace i3 := (hb4.cell lt3).trans i3
    replace d0 := (hb24.cell ltW).trans d0
    replace d1 := (hb24.cell ltW).trans d1
    replace d2 := (hb24.cell ltW).trans d2
    replace d3 := (hb24.cell ltW).trans d3
    have hp4 := ht1.below hb14 (Nat.le_refl _)
    have hk4 := hfkk.below (kept_S d) hb14 (Nat.le_refl _)
    have hn4 := hfn'.below hb14 (Nat.le_refl _)
    have hs4 := hs1.below hb14 (Nat.le_refl _)
    have hB4 := hb01.trans (hb14.mono hb01.size)
    generalize w1.heap.size = D at d0 d1 d2 d3 ⊢
    generalize W2.heap.size = Q at *
    clear hW3 hb3 box3 hb23 HK HT hbW ltW sW s1 hs1 ht1 hb01 hb24 hb14 hb4 hb2 Hkind Htype hbb hfkk hfn'
    have HpB := pickB_any (.pointer (some ⟨D, 0, none⟩)) fk.bytes.size (byteV fk.bytes) rest (some ⟨b, o2, none⟩) n c9 W4 hfb Hn.out hp4 (fun j hj => getB_any D fk.bytes j hj W4 d1)
    have HpN := pickN_any (.pointer (some ⟨D, 0, none⟩)) R (fun j => fk.nums.getD j 0#64) rest (some ⟨b, o2, none⟩) n c9 W4 hfnn Hn.out hp4 (fun j hj => getN_any D fk.nums a4 R p4 HR.out j (by rw [← HR.out]; exact hj) W4 d2 hn4)
    have HpK := pickK_any (.pointer (some ⟨w.heap.size, 0, none⟩)) (.pointer (some ⟨Q, 0, none⟩)) M (fun _ => BitVec.ofNat 64 (typeL s ty).length) rest (some ⟨b, o2, none⟩) n c9 W4 hfm Hn.out hp4 (fun j hj => getK_any w.heap.size Q s (.slice sa sn sc) ty j W4 s3 i3 hs4)
    have HpKd := fun k => pickK_any (.pointer (some ⟨w.heap.size, 0, none⟩)) (.pointer (some ⟨Q, 0, none⟩)) M (fun _ => BitVec.ofNat 64 (typeL s ty).length) rest (some ⟨b, o2, none⟩) n c9 (W4.drewN k) hfm Hn.out hp4.drewN (fun j hj => getK_any w.heap.size Q s (.slice sa sn sc) ty j (W4.drewN k) s3 i3 hs4.drewN)
    have hKo := hKi.out
    clear hKi
    subst hKo
    have Hv := hid (show getF s (fun x r => getT s d ty x r) 3 ty fk rest = pickV R rest (fun j => fk.nums.getD j 0#64) by simp only [getF]; rw [HR.out]; simp)
    go_wp2_with (go_at_call 84; refine (HpN).mono ?_; rintro r5 W5 ⟨rfl, rfl⟩)
    go_returns
    exact ⟨by rw [Hv.out]; rfl, hB4⟩

set_option maxRecDepth 100000 in
set_option maxHeartbeats 40000000 in
theorem get_k6 (s : Schema) (sa : Option Addr) (sn sc : Nat) (d : Nat) (ihd : GetIH s sa sn sc d) : ∀ (t : Int) (v : St (d + 1)) (cs : List Value) (p : Int) (rest : List Int) (b off m c : Nat) (w : World), Sch w (.slice sa sn sc) s → RdS (d + 1) w cs v →
    m = rest.length + 1 → Ints w (.slice (some ⟨b, off, none⟩) m c) (p :: rest) → (0 ≤ p ∧ p.toNat < (Node.kids v).length ∧ ∀ k : Int, 1 ≤ k → k ≤ 5 → (fieldP s t p.toNat).1 ≠ k) →
    Calls Tryd.prog 79 #[.slice sa sn sc, .int .i64 t, .agg cs.toArray, .slice (some ⟨b, off, none⟩) m c] w (GetR w (getT s (d + 1) t v (p :: rest))) := by
  intro t v cs p rest b off m c w hs h hm hp hK
  have ih : Hid (∀ (t : Int) (v : St d) (cs : List Value) (p : Int) (rest : List Int) (b off m c : Nat) (w : World), Sch w (.slice sa sn sc) s → RdS d w cs v → m = rest.length + 1 → Ints w (.slice (some ⟨b, off, none⟩) m c) (p :: rest) → Calls Tryd.prog 79 #[.slice sa sn sc, .int .i64 t, .agg cs.toArray, .slice (some ⟨b, off, none⟩) m c] w (GetR w (getT s d t v (p :: rest)))) := hid ihd
  obtain ⟨a2, p2, a, cap, rfl, hbs, hn, hk, hnm, hkm⟩ := RdN.open h
  clear h hn
  obtain ⟨N, hN⟩ : ∃ N, N = (Node.kids v).length := ⟨_, rfl⟩
  rw [← hN] at hk hkm hK ⊢
  have HN := hid hN
  clear hN
  obtain ⟨o2, ho2, htail⟩ := Ints.behind hp hm
  obtain ⟨c9, hc9⟩ : ∃ x, c - 1 = x := ⟨_, rfl⟩
  rw [hc9] at htail
  obtain ⟨n, hnl⟩ : ∃ n, n = rest.length := ⟨_, rfl⟩
  rw [← hnl] at hm htail
  have Hn := hid hnl
  clear hnl
  subst hm
  obtain ⟨b', off', c', e, h2, h3, h4, h5⟩ := Row.cons hp (by simp)
  have h6 := hp.most
  simp only [Value.slice.injEq, Option.some.injEq, Addr.mk.injEq] at e
  obtain ⟨⟨rfl, rfl, _⟩, em, rfl⟩ := e
  clear em
  have c0 : w.cell? ⟨b, off, none⟩ = some (.int .i64 p) := h5 0 (by simp)
  clear h5 hp
  obtain ⟨w0, hw0, hb0, hlt0, hbox0⟩ := boxed w #[.slice sa sn sc] 27
  have s0 : w0.cell? ⟨w.heap.size, 0, none⟩ = some (.slice sa sn sc) := hbox0 0
  obtain ⟨w1, hw1, hb1, hlt1, hbox⟩ := boxed w0 #[U (Node.num v), .string (Node.bytes v), .slice a2 (Node.nums v).length p2, .slice a N cap] 32
  have x3 : w1.cell? ⟨w0.heap.size, 3, none⟩ = some (.slice a N cap) := hbox 3
  have c1 : w1.cell? ⟨b, off, none⟩ = some (.int .i64 p) := (hb1.cell (Nat.lt_of_lt_of_le h4 hb0.size)).trans ((hb0.cell h4).trans c0)
  have s1 : w1.cell? ⟨w.heap.size, 0, none⟩ = some (.slice sa sn sc) := (hb1.cell hlt0).trans s0
  have hb01 := via hb0 hb1
  have hs1 := hs.below hb01 (Nat.le_refl _)
  have hk1 := hk.below (kept_N (kept_S d)) hb01 (Nat.le_refl _)
  have ht1 := htail.below hb01 (Nat.le_refl _)
  clear hbox hbox0 hs hk htail c0 s0
  have hn1 : (1 : Int) ≤ (n : Int) + 1 := by omega
  have h41 : b < w1.heap.size := Nat.lt_of_lt_of_le (Nat.lt_of_lt_of_le h4 hb0.size) hb1.size
  by_cases hneg : p < 0
  · exact absurd hK.1 (by omega)
  · obtain ⟨i, rfl⟩ : ∃ i : Nat, p = i := ⟨p.toNat, by omega⟩
    have hKk := hK.2.2
    rw [Int.toNat_natCast] at hKk
    have hi : i < N := by have := hK.2.1; rw [Int.toNat_natCast] at this; exact this
    clear hK
    have hKi := hid hKk
    clear hKk
    obtain ⟨fk, hfk⟩ := get_lt (l := Node.kids v) (i := i) (by rw [← HN.out]; exact hi)
    obtain ⟨bf, of, a4, p4, a5, p5, rfl, hbb, q0, q1, q2, q3, hfb, hfn, hfkk, _, hfnn, hfm⟩ := Kids.at_ hk1 hfk
    obtain ⟨M, hM⟩ : ∃ M, M = fk.kids.length := ⟨_, rfl⟩
    obtain ⟨R, hR⟩ : ∃ R, R = fk.nums.length := ⟨_, rfl⟩
    rw [← hM] at hfkk hfm q3
    rw [← hR] at hfnn q2
    have hfn' : Row w1 1 (.slice a4 R p4) fk.nums.length (fk.nums.map U) := by rw [hR]; exact hfn
    have HM := hid hM
    have HR := hid hR
    have Hg := hid (show getT s (d + 1) t v ((i : Int) :: rest) = getF s (fun x r => getT s d (fieldP s t i).2 x r) (fieldP s t i).1 (fieldP s t i).2 fk rest by
      rw [getT, List.headD_cons, if_neg hneg, Int.toNat_natCast, hfk]; rfl)
    have hd : decide ((i : Int) < 0) = false := decide_eq_false hneg
    have hd2 : decide (N ≤ i) = false := decide_eq_false (by omega)
    clear hM hR hfk hfn hneg hk1
    rw [Hg.out]
    have Hkind := fun W (hW : Below w1.heap.size w1 W) => kind_any s (.slice sa sn sc) t i W (hs1.below hW (Nat.le_refl _))
    have Htype := fun W (hW : Below w1.heap.size w1 W) => type_any s (.slice sa sn sc) t i W (hs1.below hW (Nat.le_refl _))
    generalize (fieldP s t i).1 = kd at *
    generalize (fieldP s t i).2 = ty at *
    go_enter Tryd.func79, Tryd.ntmps79
    go_wp2_with fail
    go_quiet (fail)
    go_wp2_with fail
    have hzp : ∀ nq B j, B < w1.heap.size → ((w1.drewN nq).alloc (.cells #[.int .u64 0, .string { data := #[] }, .slice none 0 0, .slice none 0 0] 32)).cell? ⟨B, j, none⟩ = w1.cell? ⟨B, j, none⟩ := fun nq B j h => World.cell?_alloc_past _ _ _ h
    have z0 : ∀ nq, ((w1.drewN nq).alloc (.cells #[.int .u64 0, .string { data := #[] }, .slice none 0 0, .slice none 0 0] 32)).cell? ⟨w1.heap.size, 0, none⟩ = some (.int .u64 0) := fun nq => World.cell?_alloc_at _ _ _ _ rfl
    have z1 : ∀ nq, ((w1.drewN nq).alloc (.cells #[.int .u64 0, .string { data := #[] }, .slice none 0 0, .slice none 0 0] 32)).cell? ⟨w1.heap.size, 1, none⟩ = some (.string { data := #[] }) := fun nq => World.cell?_alloc_at _ _ _ _ rfl
    have z2 : ∀ nq, ((w1.drewN nq).alloc (.cells #[.int .u64 0, .string { data := #[] }, .slice none 0 0, .slice none 0 0] 32)).cell? ⟨w1.heap.size, 2, none⟩ = some (.slice none 0 0) := fun nq => World.cell?_alloc_at _ _ _ _ rfl
    have z3 : ∀ nq, ((w1.drewN nq).alloc (.cells #[.int .u64 0, .string { data := #[] }, .slice none 0 0, .slice none 0 0] 32)).cell? ⟨w1.heap.size, 3, none⟩ = some (.slice none 0 0) := fun nq => World.cell?_alloc_at _ _ _ _ rfl
    have zf : ∀ nq j, ((w1.drewN nq).alloc (.cells #[.int .u64 0, .string { data := #[] }, .slice none 0 0, .slice none 0 0] 32)).frozen? ⟨w1.heap.size, j, none⟩ = false := fun nq j => World.frozen?_alloc_at _ _ _ _ rfl
    have zc := fun nq => (hzp nq b off h41).trans c1
    have zq0 := fun nq => (hzp nq bf (of + i * 4) hbb).trans q0
    have zq1 := fun nq => (hzp nq bf (of + i * 4 + 1) hbb).trans q1
    have zq2 := fun nq => (hzp nq bf (of + i * 4 + 2) hbb).trans q2
    have zq3 := fun nq => (hzp nq bf (of + i * 4 + 3) hbb).trans q3
    have zx := fun nq => (hzp nq w0.heap.size 3 hlt1).trans x3
    have hneb : b ≠ w1.heap.size := by omega
    have zs : ∀ nq, ((((((w1.drewN nq).alloc (.cells #[.int .u64 0, .string { data := #[] }, .slice none 0 0, .slice none 0 0] 32)).setCell ⟨w1.heap.size, 0, none⟩ (U fk.num)).setCell ⟨w1.heap.size, 1, none⟩ (.string fk.bytes)).setCell ⟨w1.heap.size, 2, none⟩ (.slice a4 R p4)).setCell ⟨w1.heap.size, 3, none⟩ (.slice a5 M p5)).cell? ⟨b, off, none⟩ = some (.int .i64 i) := fun nq => by
      rw [World.cell?_setCell_other _ _ _ _ (by simp), World.cell?_setCell_other _ _ _ _ (by simp), World.cell?_setCell_other _ _ _ _ (by simp), World.cell?_setCell_other _ _ _ _ (by simp)]
      exact zc nq
    clear hzp
    go_region
    obtain ⟨W, hW, hbW, ltW, d0, d1, d2, d3⟩ := tree_copy w1 (nq + 1) (U fk.num) (.string fk.bytes) (.slice a4 R p4) (.slice a5 M p5)
    rw [hW]
    clear zc zq0 zq1 zq2 zq3 zx zs z0 z1 z2 z3 zf hW hw0 hw1 q0 q1 q2 q3 hneb x3 c1 hd hd2
    have sW : W.cell? ⟨w.heap.size, 0, none⟩ = some (.slice sa sn sc) := (hbW.cell (Nat.lt_of_lt_of_le hlt0 hb1.size)).trans s1
    have HT := Htype W hbW
    go_wp2_with (first
      | (go_at_call 35; refine HT.mono ?_; rintro r1 W2 ⟨rfl, hb2⟩; obtain ⟨W3, hW3, hb3, lt3, box3⟩ := boxed W2 #[.int .i64 ty] 3; have i3 : W3.cell? ⟨W2.heap.size, 0, none⟩ = some (.int .i64 ty) := box3 0; have hb23 : Below W.heap.size W W3 := hb2.trans (hb3.mono hb2.size); have s3 : W3.cell? ⟨w.heap.size, 0, none⟩ = some (.slice sa sn sc) := (hb23.cell (Nat.lt_of_lt_of_le (Nat.lt_of_lt_of_le hlt0 hb1.size) hbW.size)).trans sW; have HK := Hkind W3 (hbW.trans (hb23.mono hbW.size))))
    ((refine HK.mono ?_); rintro r1 W4 ⟨rfl, hb4⟩)
    have hb24 : Below W.heap.size W W4 := hb23.trans (hb4.mono hb23.size)
    have hb14 : Below w1.heap.size w1 W4 := hbW.trans (hb24.mono hbW.size)
    replace s3 := (hb4.cell (Nat.lt_of_lt_of_le (Nat.lt_of_lt_of_le (Nat.lt_of_lt_of_le hlt0 hb1.size) hbW.size) hb23.size)).trans s3
    replace i3 := (hb4.cell lt3).trans i3
    replace d0 := (hb24.cell ltW).trans d0
    replace d1 := (hb24.cell ltW).trans d1
    replace d2 := (hb24.cell ltW).trans d2
    replace d3 := (hb24.cell ltW).trans d3
    have hp4 := ht1.below hb14 (Nat.le_refl _)
    have hk4 := hfkk.below (kept_S d) hb14 (Nat.le_refl _)
    have hn4 := hfn'.below hb14 (Nat.le_refl _)
    have hs4 := hs1.below hb14 (Nat.le_refl _)
    have hB4 := hb01.trans (hb14.mono hb01.size)
    generalize w1.heap.size = D at d0 d1 d2 d3 ⊢
    generalize W2.heap.size = Q at *
    clear hW3 hb3 box3 hb23 HK HT hbW ltW sW s1 hs1 ht1 hb01 hb24 hb14 hb4 hb2 Hkind Htype hbb hfkk hfn'
    have HpB := pickB_any (.pointer (some ⟨D, 0, none⟩)) fk.bytes.size (byteV fk.bytes) rest (some ⟨b, o2, none⟩) n c9 W4 hfb Hn.out hp4 (fun j hj => getB_any D fk.bytes j hj W4 d1)
    have HpN := pickN_any (.pointer (some ⟨D, 0, none⟩)) R (fun j => fk.nums.getD j 0#64) rest (some ⟨b, o2, none⟩) n c9 W4 hfnn Hn.out hp4 (fun j hj => getN_any D fk.nums a4 R p4 HR.out j (by rw [← HR.out]; exact hj) W4 d2 hn4)
    have HpK := pickK_any (.pointer (some ⟨w.heap.size, 0, none⟩)) (.pointer (some ⟨Q, 0, none⟩)) M (fun _ => BitVec.ofNat 64 (typeL s ty).length) rest (some ⟨b, o2, none⟩) n c9 W4 hfm Hn.out hp4 (fun j hj => getK_any w.heap.size Q s (.slice sa sn sc) ty j W4 s3 i3 hs4)
    have HpKd := fun k => pickK_any (.pointer (some ⟨w.heap.size, 0, none⟩)) (.pointer (some ⟨Q, 0, none⟩)) M (fun _ => BitVec.ofNat 64 (typeL s ty).length) rest (some ⟨b, o2, none⟩) n c9 (W4.drewN k) hfm Hn.out hp4.drewN (fun j hj => getK_any w.heap.size Q s (.slice sa sn sc) ty j (W4.drewN k) s3 i3 hs4.drewN)
    have hKi := hKi.out
    have k1 := hKi 1 (by decide) (by decide)
    have k2 := hKi 2 (by decide) (by decide)
    have k3 := hKi 3 (by decide) (by decide)
    have k4 := hKi 4 (by decide) (by decide)
    have k5 := hKi 5 (by decide) (by decide)
    clear hKi
    have hb1 : (kd == 1) = false := by rw [beq_eq_false_iff_ne]; exact k1
    have hb2 : (kd == 2) = false := by rw [beq_eq_false_iff_ne]; exact k2
    have hb3 : (kd == 3) = false := by rw [beq_eq_false_iff_ne]; exact k3
    have hb4 : (kd == 4) = false := by rw [beq_eq_false_iff_ne]; exact k4
    have hb5 : (kd == 5) = false := by rw [beq_eq_false_iff_ne]; exact k5
    by_cases hr : rest = []
    · have hr' := hr
      obtain rfl : n = 0 := by rw [Hn.out, hr]; rfl
      have Hv := hid (show getF s (fun x r => getT s d ty x r) kd ty fk rest = pickV M rest (fun _ => BitVec.ofNat 64 (typeL s ty).length) by rw [show getF s (fun x r => getT s d ty x r) kd ty fk rest = endV s ty fk.kids.length rest by simp only [getF]; rw [if_neg k1, if_neg k2, if_neg k3, if_neg k4, if_neg k5], endV, if_neg (by simp [hr]), HM.out])
      clear hr hr'
      go_wp2_with (go_at_call 84; refine (HpK).mono ?_; rintro r5 W5 ⟨rfl, rfl⟩)
      go_returns
      exact ⟨by rw [Hv.out]; rfl, hB4⟩
    · have hr' := hr
      have hn0 : 0 < n := by rw [Hn.out]; exact List.length_pos_iff.2 hr
      have hnd : decide ((0 : Int) < (n : Int)) = true := decide_eq_true (by omega)
      by_cases hM : M = 0
      · have hM0 : fk.kids.length = 0 := by rw [← HM.out]; exact hM
        have Hv := hid (show getF s (fun x r => getT s d ty x r) kd ty fk rest = (0#64, 12) by rw [show getF s (fun x r => getT s d ty x r) kd ty fk rest = endV s ty fk.kids.length rest by simp only [getF]; rw [if_neg k1, if_neg k2, if_neg k3, if_neg k4, if_neg k5], endV, if_pos ⟨hr, hM0⟩])
        subst hM
        clear hr
        (try clear hr2)
        (try clear hre)
        go_wp2_with fail
        go_returns
        exact ⟨by rw [Hv.out]; rfl, hB4⟩
      · have hM0 : ¬ fk.kids.length = 0 := by rw [← HM.out]; exact hM
        have Hv := hid (show getF s (fun x r => getT s d ty x r) kd ty fk rest = pickV M rest (fun _ => BitVec.ofNat 64 (typeL s ty).length) by rw [show getF s (fun x r => getT s d ty x r) kd ty fk rest = endV s ty fk.kids.length rest by simp only [getF]; rw [if_neg k1, if_neg k2, if_neg k3, if_neg k4, if_neg k5], endV, if_neg (fun h => hM0 h.2), HM.out])
        have hMd : ((M : Int) == 0) = false := by rw [beq_eq_false_iff_ne]; omega
        clear hr
        (try clear hr2)
        (try clear hre)
        go_wp2_with (go_at_call 84; refine (HpK).mono ?_; rintro r5 W5 ⟨rfl, rfl⟩)
        go_returns
        exact ⟨by rw [Hv.out]; rfl, hB4⟩
end STrGKA

end Go.Proofs.YtblbhlgihlgncaaDoor


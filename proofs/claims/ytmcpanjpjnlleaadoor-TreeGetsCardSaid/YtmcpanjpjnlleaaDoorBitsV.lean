/- What the functions of package bits come to, in plain words. -/
import Derived.Test.YtmcpanjpjnlleaaDoorBase
import Derived.Test.YtmcpanjpjnlleaaDoorBs2
import Derived.Deep.QuietTactic
import Derived.BigQuiet
set_option linter.unusedVariables false
namespace Go.Proofs.YtmcpanjpjnlleaaDoor
open Go.RowKit

def mayB (at' n : Int) : Bool := decide (1 ≤ n ∧ n ≤ 64 ∧ 0 ≤ at' ∧ at' ≤ 64 - n)

def allV (n : Int) : BitVec 64 := BitVec.allOnes 64 >>> (64 - n).toNat

def setV (w : BitVec 64) (at' n : Int) (v : BitVec 64) : BitVec 64 := (w &&& ~~~ (allV n <<< at'.toNat)) ||| (v <<< at'.toNat)

def setOk (at' n : Int) (v : BitVec 64) : Bool := mayB at' n && (v &&& ~~~ allV n) == 0#64

def getV (w : BitVec 64) (at' n : Int) : BitVec 64 := if mayB at' n then w >>> at'.toNat &&& allV n else 0#64

def countV (n : Int) : Int := if n ≤ 0 then 0 else (n + 7) / 8

/-- The word of bytes, lowest first: the first n of them. -/
def leV (l : List UInt8) : Nat → BitVec 64
  | 0 => 0#64
  | k + 1 => leV l k ||| (BitVec.ofNat 64 (l.getD k 0).toNat <<< (8 * k))

def wordV (l : List UInt8) (i : Int) : BitVec 64 :=
  if i < 0 ∨ countV l.length ≤ i then 0#64 else leV (l.drop (8 * i.toNat)) (min 8 (l.length - 8 * i.toNat))

theorem wordV_in (l : List UInt8) (i : Nat) (k : Nat) (hi : (i : Int) < countV l.length) (hk : k = min 8 (l.length - 8 * i)) : wordV l i = leV (l.drop (8 * i)) k := by
  unfold wordV
  rw [if_neg (by omega), hk, Int.toNat_natCast]

theorem leV_succ (s : ByteArray) (k : Nat) (h : k < s.size) : leV s.data.toList (k + 1) = leV s.data.toList k ||| (BitVec.ofNat 64 s[k].toNat <<< (8 * k)) := by
  rw [leV]
  congr 3
  rw [List.getD_eq_getElem?_getD, List.getElem?_eq_getElem (by simpa using h), Option.getD_some]
  rfl

def wordsV (l : List UInt8) : List (BitVec 64) := (List.range (countV l.length).toNat).map fun (i : Nat) => wordV l i

/-- A row that is filled from its head: k of its c places. -/
def fillV (f : Nat → Value) (z : Value) (c k : Nat) : List Value := (List.range c).map fun i => if i < k then f i else z

theorem fillV_zero (f : Nat → Value) (z : Value) (c : Nat) : fillV f z c 0 = List.replicate c z := by
  apply List.ext_getElem? ; intro i
  by_cases h : i < c <;> simp [fillV, h]

theorem fillV_succ (f : Nat → Value) (z : Value) (c k : Nat) : (fillV f z c k).set k (f k) = fillV f z c (k + 1) := by
  apply List.ext_getElem? ; intro i
  rw [List.getElem?_set]
  by_cases h : k = i
  · subst h; by_cases h2 : k < c <;> simp [fillV, h2]
  · rw [if_neg h]
    by_cases h2 : i < c
    · by_cases h3 : i < k
      · simp [fillV, h2, h3, Nat.lt_succ_of_lt h3]
      · have : ¬ i < k + 1 := by omega
        simp [fillV, h2, h3, this]
    · simp [fillV, h2]

theorem fillV_all (f : Nat → Value) (z : Value) (c : Nat) : fillV f z c c = (List.range c).map f := by
  apply List.ext_getElem? ; intro i
  by_cases h : i < c <;> simp [fillV, h]

theorem wordsV_fill (l : List UInt8) (c : Nat) (h : countV l.length = c) : (wordsV l).map U = fillV (fun i => U (wordV l (i : Int))) (.int .u64 0) c c := by
  rw [fillV_all, wordsV, h]; simp [Function.comp_def]

theorem owns_has {w : World} {base : Nat} {e : TypeId} {size g n cap : Nat} {xs : List Value} (h : w.ownsRow base e size (.slice (some ⟨g, 0, none⟩) n cap) n xs) (j : Nat) (hj : j < n * size) :
    ∃ u, w.cell? ⟨g, j, none⟩ = some u := by
  rw [h.cellAt j hj, List.getElem?_eq_getElem (by rw [h.1]; exact hj)]; exact ⟨_, rfl⟩

theorem count_le (n : Int) (h : 0 ≤ n) : 0 ≤ countV n ∧ 8 * countV n ≤ n + 7 := by unfold countV; split <;> omega

theorem ret_i64 {a b : Int} (h : a = b) : Ending.returned (.int .i64 a) = .returned (.int .i64 b) := by rw [h]

theorem ret_U {a b : BitVec 64} (h : a = b) : Ending.returned (U a) = .returned (U b) := by rw [h]

theorem ret_true {b : Bool} (h : b = true) : Ending.returned (.bool b) = .returned (.bool true) := by rw [h]

/-- The bytes of words, lowest first. -/
def byteAt (ws : List (BitVec 64)) (i : Nat) : UInt8 := by8 (ws.getD (i / 8) 0#64 >>> (8 * (i % 8)))

def bytesV (ws : List (BitVec 64)) : List UInt8 := (List.range (8 * ws.length)).map (byteAt ws)

def textOk (ws : List (BitVec 64)) (n : Int) : Bool := decide (0 ≤ n) && decide ((ws.length : Int) = countV n) && ((bytesV ws).drop n.toNat).all (· == 0)

def textV (ws : List (BitVec 64)) (n : Int) : List UInt8 := if textOk ws n then (bytesV ws).take n.toNat else []

/-- The first k bytes, as cells. -/
def byteCells (ws : List (BitVec 64)) (k : Nat) : List Value := (List.range k).map fun i => Y (byteAt ws i)

theorem byteCells_succ (ws : List (BitVec 64)) (k : Nat) : byteCells ws k ++ [Y (byteAt ws k)] = byteCells ws (k + 1) := by
  simp [byteCells, List.range_succ]

theorem bytesV_length (ws : List (BitVec 64)) : (bytesV ws).length = 8 * ws.length := by simp [bytesV]

theorem bytesV_get (ws : List (BitVec 64)) (i : Nat) (h : i < 8 * ws.length) : (bytesV ws)[i]? = some (byteAt ws i) := by simp [bytesV, h]

theorem textOk_of (ws : List (BitVec 64)) (m : Nat) (hc : (ws.length : Int) = countV m) (h : ∀ t, m ≤ t → t < 8 * ws.length → byteAt ws t = 0) : textOk ws m = true ∧ textV ws m = (bytesV ws).take m := by
  have : textOk ws m = true := by
    unfold textOk
    rw [Int.toNat_natCast]
    simp only [Bool.and_eq_true, decide_eq_true_eq, List.all_eq_true]
    refine ⟨⟨by omega, hc⟩, fun x hx => ?_⟩
    obtain ⟨t, ht⟩ := List.mem_iff_getElem?.1 hx
    rw [List.getElem?_drop] at ht
    have hlt : m + t < 8 * ws.length := by
      have := (List.getElem?_eq_some_iff.1 ht).1
      rwa [bytesV_length] at this
    rw [bytesV_get ws _ hlt, h _ (by omega) hlt] at ht
    cases ht; rfl
  exact ⟨this, by unfold textV; rw [if_pos this, Int.toNat_natCast]⟩

theorem textOk_not (ws : List (BitVec 64)) (m t : Nat) (h1 : m ≤ t) (h2 : t < 8 * ws.length) (h : byteAt ws t ≠ 0) : textOk ws m = false ∧ textV ws m = [] := by
  have : textOk ws m = false := by
    unfold textOk
    rw [Int.toNat_natCast, Bool.and_eq_false_iff]
    right
    rw [List.all_eq_false]
    refine ⟨byteAt ws t, ?_, by simpa using h⟩
    rw [List.mem_iff_getElem?]
    exact ⟨t - m, by rw [List.getElem?_drop, show m + (t - m) = t by omega, bytesV_get ws t h2]⟩
  exact ⟨this, by unfold textV; rw [if_neg (by rw [this]; decide)]⟩

theorem run_back {P : Program} {w : World} (src dst e : TypeId) (B cap : Nat) (ws : List (BitVec 64)) (m : Nat) (hs : P.underlying src = some (.slice e)) (he : P.underlying e = some (.int .u8)) (hd : P.underlying dst = some .string) (hm : m ≤ 8 * ws.length)
    (hc : ∀ j, j < m → w.cell? ⟨B, j, none⟩ = some (Y (byteAt ws j))) :
    (convert src dst (.slice (some ⟨B, 0, none⟩) m cap)).run P w = .ok (.string ⟨((bytesV ws).take m).toArray⟩) w := by
  have hl : ((bytesV ws).take m).length = m := by rw [List.length_take, bytesV_length]; omega
  have := run_convert_bytes_back (P := P) w src dst e ⟨B, 0, none⟩ cap ((bytesV ws).take m) hs he hd (fun j hj => by
    rw [hl] at hj
    have h1 : ((bytesV ws).take m)[j]? = some (byteAt ws j) := by rw [List.getElem?_take, if_pos hj, bytesV_get ws j (by omega)]
    have h2 := List.getElem_of_getElem? h1
    rw [h2.2]
    have : (⟨B, 0, none⟩ : Addr).add j = ⟨B, j, none⟩ := by rw [Addr.add_lit]; simp
    rw [this]
    exact hc j (by omega))
  rwa [hl] at this

theorem byteCells_at {w : World} {base : Nat} {e : TypeId} {B cap : Nat} {ws : List (BitVec 64)} (h : w.ownsRow base e 1 (.slice (some ⟨B, 0, none⟩) (8 * ws.length) cap) (8 * ws.length) (byteCells ws (8 * ws.length))) (j : Nat) (hj : j < 8 * ws.length) :
    w.cell? ⟨B, j, none⟩ = some (Y (byteAt ws j)) := by
  rw [h.cellAt j (by omega)]; simp [byteCells, hj]

theorem ret_text {a b : List UInt8} {x y : Bool} (h1 : a = b) (h2 : x = y) : Ending.returned (.tuple #[.string ⟨a.toArray⟩, .bool x]) = .returned (.tuple #[.string ⟨b.toArray⟩, .bool y]) := by rw [h1, h2]

theorem countV_nat (m : Nat) : ∃ c : Nat, countV m = c ∧ 8 * c ≤ m + 7 := by
  unfold countV; split
  · exact ⟨0, rfl, by omega⟩
  · exact ⟨(m + 7) / 8, by omega, by omega⟩

/-- Behind an append to what the call owns. -/
theorem own_below {B : Nat} {w wr w2 : World} {o : Obj} {e : TypeId} {size n : Nat} {v : Value} {xs : List Value} (hb : Below B w wr) (hB : B ≤ wr.heap.size) (hown : wr.ownsRow B e size v n xs) (hg : (wr.alloc o).grownBy w2 v.ownBlock) : Below B w w2 :=
  (hb.alloc hB o).grown hg (by simp; omega) (fun k h => ((hown.lt k h).1))

theorem mapU_take (ws : List (BitVec 64)) (k : Nat) (h : k < ws.length) : (ws.map U).take k ++ [U (ws.getD k 0#64)] = (ws.map U).take (k + 1) := by
  rw [List.take_succ_eq_append_getElem (by simpa using h)]
  simp [List.getD, h]

theorem below_cell {w w' : World} (hb : Below w.heap.size w w') {b o : Nat} {v : Value} (h : w.cell? ⟨b, o, none⟩ = some v) : w'.cell? ⟨b, o, none⟩ = some v := by
  rw [hb.cell (p := ⟨b, o, none⟩) (World.block_lt_of_cell? w ⟨b, o, none⟩ (by rw [h]))]; exact h

theorem owns_below {w w' : World} {B : Nat} {e : TypeId} {sz n : Nat} {v : Value} {xs : List Value} (h : w.ownsRow B e sz v n xs) (hb : Below w.heap.size w w') : w'.ownsRow B e sz v n xs := by
  refine ⟨h.1, ?_⟩
  rcases h.2 with h0 | ⟨g, cap, cur, hv, hg, hh, r⟩
  · exact .inl h0
  · have hlt : g < w.heap.size := by
      rcases Nat.lt_or_ge g w.heap.size with hl | hl
      · exact hl
      · rw [Array.getElem?_eq_none hl] at hh; cases hh
    exact .inr ⟨g, cap, cur, hv, hg, by rw [hb.block g hlt]; exact hh, r⟩

theorem tmod_bd (m k : Int) (h : 0 < k) : -k < m.tmod k ∧ m.tmod k < k := by
  refine ⟨?_, Int.tmod_lt_of_pos m h⟩
  rcases Int.le_total 0 m with h1 | h1
  · have := Int.tmod_nonneg k h1; omega
  · have h2 := Int.tmod_lt_of_pos (-m) h
    rw [Int.neg_tmod] at h2; omega

end Go.Proofs.YtmcpanjpjnlleaaDoor


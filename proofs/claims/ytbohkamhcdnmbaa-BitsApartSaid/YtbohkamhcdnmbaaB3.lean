import Derived.Test.YtbohkamhcdnmbaaRows
import Derived.Test.YtbohkamhcdnmbaaB2
import Derived.Deep.QuietTactic
import Derived.BigQuiet
set_option linter.unusedVariables false
namespace Go.Proofs.Ytbohkamhcdnmbaa
open Go.RowKit


def wordsV (l : List UInt8) : List (BitVec 64) := (List.range (countV l.length).toNat).map fun (i : Nat) => wordV l i

/-- A row that is filled from its head: k of its c places. -/
def fillV (f : Nat → Value) (z : Value) (c k : Nat) : List Value := (List.range c).map fun i => if i < k then f i else z
theorem fillV_zero (f : Nat → Value) (z : Value) (c : Nat) : fillV f z c 0 = List.replicate c z := by
  apply List.ext_getElem? ; intro i
  by_cases h : i < c <;> simp [fillV, h]
theorem fillV_succ (f : Nat → Value) (z : Value) (c k : Nat) : (fillV f z c k).set k (f k) = fillV f z c (k + 1) := by
  apply List.ext_getElem? ; intro i
  rw [List.getElem?_set]
  by_cases h : k = i
  · subst h; by_cases h2 : k < c <;> simp [fillV, h2]
  · rw [if_neg h]
    by_cases h2 : i < c
    · by_cases h3 : i < k
      · simp [fillV, h2, h3, Nat.lt_succ_of_lt h3]
      · have : ¬ i < k + 1 := by omega
        simp [fillV, h2, h3, this]
    · simp [fillV, h2]
theorem fillV_all (f : Nat → Value) (z : Value) (c : Nat) : fillV f z c c = (List.range c).map f := by
  apply List.ext_getElem? ; intro i
  by_cases h : i < c <;> simp [fillV, h]

theorem wordsV_fill (l : List UInt8) (c : Nat) (h : countV l.length = c) : (wordsV l).map U = fillV (fun i => U (wordV l (i : Int))) (.int .u64 0) c c := by
  rw [fillV_all, wordsV, h]; simp [Function.comp_def]

theorem owns_has {w : World} {base : Nat} {e : TypeId} {size g n cap : Nat} {xs : List Value} (h : w.ownsRow base e size (.slice (some ⟨g, 0, none⟩) n cap) n xs) (j : Nat) (hj : j < n * size) :
    ∃ u, w.cell? ⟨g, j, none⟩ = some u := by
  rw [h.cellAt j hj, List.getElem?_eq_getElem (by rw [h.1]; exact hj)]; exact ⟨_, rfl⟩

theorem info22 : (Try.prog.info? 22).map (fun i => (i.zero, i.size, i.bytes)) = some (some (.int .u64 0), 1, 8) := by kernel_rfl

theorem count_le (n : Int) (h : 0 ≤ n) : 0 ≤ countV n ∧ 8 * countV n ≤ n + 7 := by unfold countV; split <;> omega

set_option maxHeartbeats 400000 in
theorem words_own (s : ByteArray) (w : World) (hs : s.size ≤ 140737488351232) :
    Calls Try.prog 20 #[.string s] w (Gives w fun v w' => v = .slice (some ⟨w.heap.size, 0, none⟩) (countV s.size).toNat (countV s.size).toNat ∧ w'.ownsRow w.heap.size 22 1 v (countV s.size).toNat ((wordsV s.data.toList).map U)) := by
  obtain ⟨c, hc⟩ := Int.eq_ofNat_of_zero_le (count_le s.size (by omega)).1
  have hc8 := (count_le s.size (by omega)).2
  have hcn : (countV s.size).toNat = c := by omega
  rw [hcn]
  have hcl : 8 * c ≤ s.size + 7 := by omega
  have Hw := hid (wordsV_fill s.data.toList c (by simpa using hc))
  have Hc := hid hc
  clear hc hcn hc8
  obtain ⟨i0, hi, hz0, hz1, hz2⟩ := info_parts info22
  have hbd : i0.bytes * c ≤ 281474976710656 := by rw [hz2]; omega
  have hmx : c ≤ maxLen := by unfold maxLen; omega
  go_enter Try.func20, Try.ntmps20
  go_wp2_with fail
  ((with_reducible refine (count_any _ _ (by omega)).mono ?_); rintro e w' ⟨rfl, rfl⟩)
  rw [Hc.out]
  go_wp2_with (at_make; refine wpList_make_full _ rfl _ _ 37 rfl w.heap.size 22 i0 (.int .u64 0) 1 Try.underlying37 hi hz0 hz1 .i64 .i64 _ _ c rfl rfl rfl rfl hbd hmx (Nat.le_refl _) ?_)
  intro w1 hown hg
  have hb : Below w.heap.size w w1 := (Below.refl _ _).grown hg (Nat.le_refl _) (by intro k h; cases h)
  simp only [toList_madeCells_one, ← fillV_zero (fun i => U (wordV s.data.toList (i : Int)))] at hown
  clear hg
  generalize hB : w.heap.size = B at *
  go_wp2_with fail
  go_loopw [11] (fun i wr => ∃ k : Nat, k ≤ c ∧ i = .int .i64 k ∧ wr.ownsRow B 22 1 (.slice (some ⟨B, 0, none⟩) c c) c (fillV (fun i => U (wordV s.data.toList (i : Int))) (.int .u64 0) c k) ∧ Below B w wr) (fun i _ => c - (intOf i).toNat)
  case atStart => exact ⟨0, by omega, rfl, hown, hb⟩
  case round =>
    obtain ⟨k, hk, rfl, hown, hb⟩ := hrel
    by_cases h1 : k < c
    · obtain ⟨u, hcell⟩ := owns_has hown k (by omega)
      have hfr := hown.frozenAt k
      have hnew := (hown.stored k (U (wordV s.data.toList (k : Int)))).1
      rw [fillV_succ] at hnew
      have hb' := hb.setCell (p := ⟨B, k, none⟩) (Nat.le_refl _) (U (wordV s.data.toList (k : Int)))
      clear hown hb
      go_wp2_with fail
      ((with_reducible refine (word_any _ _ _ (by unfold maxLen; omega)).mono ?_); rintro e w' ⟨rfl, rfl⟩)
      go_wp2
      go_roundw
      case rel => exact ⟨k + 1, by omega, by go_num, hnew, hb'⟩
      case measure => simp [intOf]; omega
    · obtain rfl : k = c := by omega
      go_wp2
      go_ret
      exact ⟨_, rfl, hB ▸ hb, by rw [hB]; rfl, by rw [Hw.out, hB]; exact hown⟩

theorem words_any (s : ByteArray) (w : World) (hs : s.size ≤ 140737488351232) :
    Calls Try.prog 20 #[.string s] w (Gives w fun v w' => Row w' 1 v (countV s.size).toNat ((wordsV s.data.toList).map U)) :=
  (words_own s w hs).mono fun _ _ ⟨v, h1, h2, _, h4⟩ => ⟨v, h1, h2, Row.of_owns h4⟩

end Go.Proofs.Ytbohkamhcdnmbaa

/- SchemaReads: the walk. -/
import Derived.Test.YtbhnbjaafejcjaaDoorLBack
import Derived.Test.YtbhnbjaafejcjaaDoorRPack
import Derived.Test.YtbhnbjaafejcjaaDoorRRead
set_option linter.unusedVariables false
namespace Go.Proofs.YtbhnbjaafejcjaaDoor
open Go.RowKit

set_option maxRecDepth 100000 in
set_option maxHeartbeats 4000000 in
theorem reads_any (ws : List (BitVec 64)) (v : Value) (n : Nat) (w : World) (hl : LaidE w) (hw : Row w 1 v n (ws.map U)) (h9 : n ≤ 1000) :
    Calls Tryd.prog 18 #[v] w fun r w' => r = .returned (.bool true) ∧ Below w.heap.size w w' := by
  have h0 := hl.pos
  have hread := read5_any ws v n w hw h9
  have hrread := fun W h => rread5_any ws v n W h h9
  unfold ReadP at hread
  unfold RReadP at hrread
  have Hw := hid hw
  clear hw
  generalize readS ws = S at *
  cases hok : readOk ws
  · simp only [hok, Bool.false_eq_true, if_false] at hread hrread
    go_enter Tryd.func18, Tryd.ntmps18
    go_wp2_with (go_at_call 19; refine hread.mono ?_; rintro r1 w1 ⟨u, rfl, hb1, hs1⟩)
    ((refine (hrread w1 (Hw.out.lift hb1)).mono ?_); rintro r2 w2 ⟨u2, rfl, hb2, hs2⟩)
    have hsame := same5_any [] [] u u2 w2 (hs1.lift hb2) hs2
    rw [show decide (([] : Schema) = []) = true from decide_eq_true rfl] at hsame
    have hb := via hb1 hb2
    clear hs1 hs2 hb1 hb2 hread hrread
    rw [show ErrV 10 = .iface 31 (.int .i64 10) from rfl]
    go_wp2_with fail
    ((refine hsame.mono ?_); rintro r3 w3 ⟨rfl, hb3⟩)
    replace hb := via hb hb3
    clear hb3 hsame
    go_wp2_with fail
    ((refine (top_code 10 w3 (hl.below hb h0)).mono ?_); rintro r3 w4 ⟨rfl, hb4⟩)
    replace hb := via hb hb4
    clear hb4
    go_wp2_with fail
    ((refine (top_code 10 w4 (hl.below hb h0)).mono ?_); rintro r3 w5 ⟨rfl, hb5⟩)
    go_wp2_with fail
    go_ret
    exact ⟨rfl, via hb hb5⟩
  · simp only [hok, if_true] at hread hrread
    go_enter Tryd.func18, Tryd.ntmps18
    go_wp2_with (go_at_call 19; refine hread.mono ?_; rintro r1 w1 ⟨u, rfl, hb1, hs1⟩)
    ((refine (hrread w1 (Hw.out.lift hb1)).mono ?_); rintro r2 w2 ⟨u2, rfl, hb2, hs2⟩)
    have hsame := same5_any S S u u2 w2 (hs1.lift hb2) hs2
    rw [show decide (S = S) = true from decide_eq_true rfl] at hsame
    have hb := via hb1 hb2
    clear hs1 hs2 hb1 hb2 hread hrread
    rw [show ErrV 0 = .nilIface from rfl]
    go_wp2_with fail
    ((refine hsame.mono ?_); rintro r3 w3 ⟨rfl, hb3⟩)
    replace hb := via hb hb3
    clear hb3 hsame
    go_wp2_with fail
    ((refine (top_nil _).mono ?_); rintro r3 w4 ⟨rfl, hb4⟩)
    go_wp2_with fail
    go_ret
    exact ⟨rfl, via hb hb4⟩

theorem packS_pos {s : Schema} (h : rightB s = true) : 1 ≤ (packS s).length := by rw [packS, if_pos h, List.length_map]; exact (right_small h).1

set_option maxRecDepth 100000 in
set_option maxHeartbeats 4000000 in
theorem reads_walk (ws : List (BitVec 64)) (l : List Int) (u v : Value) (n : Nat) (bit : Int) (w : World) (hl : LaidE w) (hu : Row w 1 u n (ws.map U)) (hv : Row w 1 v l.length (l.map (Value.int .i64)))
    (hbl : ∀ z ∈ l, -9223372036854775808 ≤ z ∧ z ≤ 9223372036854775807) (hbit : -9223372036854775808 ≤ bit ∧ bit ≤ 9223372036854775807) :
    Calls Tryd.prog 4 #[u, v, .int .i64 bit] w fun r w' => r = .returned (.bool true) ∧ Below w.heap.size w w' := by
  have h0 := hl.pos
  have ra := (madeS_ok l).1
  have hla := packS_len ra
  have hlp := packS_pos ra
  have mA := fun W h => made5 l v W h hbl
  have hpa := fun x W h => rpack5_yes (madeS l) x W h ra
  unfold RPackP at hpa
  obtain ⟨a, cap, rfl, hnc, hcm, hx4, hx5⟩ := hu.shape
  obtain ⟨ws9, n9, hn9, hr9, hv9⟩ : ∃ (ws9 : List (BitVec 64)) (n9 : Nat), n9 ≤ 9 ∧ Row w 1 (.slice a n9 cap) n9 (ws9.map U) ∧ (if 9 < n then 9 else n) = n9 := by
    by_cases h : 9 < n
    · refine ⟨ws.take 9, 9, Nat.le_refl _, ?_, if_pos h⟩
      have := hu.cut 9 (by omega)
      rw [Nat.mul_one, ← List.map_take] at this
      exact this
    · exact ⟨ws, n, by omega, hu, if_neg h⟩
  generalize madeS l = A at *
  generalize packS A = pa at *
  have HV := hid hv
  have Hr9 := hid hr9
  have Hbl := hid hbl
  have hmost := hu.most
  unfold maxLen at hmost
  clear hv hr9 hu hx4 hx5 hbl ra
  by_cases h9 : 9 < n
  · obtain rfl : n9 = 9 := by rw [← hv9, if_pos h9]
    have h9i : (9 : Int) < (n : Int) := by omega
    have h9d : decide ((9 : Int) < (n : Int)) = true := decide_eq_true h9i
    have h9c : (9 : Int) ≤ (cap : Int) := by omega
    go_enter Tryd.func4, Tryd.ntmps4
    go_wp2_with (go_at_call 11; refine (awake05 _).mono ?_; rintro r1 w1 ⟨rfl, h1⟩)
    -- TAIL
    ((refine (mA _ (HV.out.lift h1)).mono ?_); rintro r2 w2 ⟨sa, rfl, h2, hsa⟩)
    have hb2 := via h1 h2
    clear h1 h2 mA
    go_wp2_with fail
    ((refine (hpa _ _ hsa).mono ?_); rintro r2 w3 ⟨p, rfl, h3, hop⟩)
    have hb3 := via hb2 h3
    obtain ⟨q, hq⟩ : ∃ q, q = pa.length := ⟨_, rfl⟩
    rw [← hq] at hop hla hlp
    have Hq := hid hq
    clear hq hsa hpa
    have hb2s := hb2.size
    obtain ⟨g, cp, rfl, hgB, hcpq⟩ := hop.form hlp
    have hX : -9223372036854775808 ≤ bit / 64 ∧ bit / 64 ≤ 9223372036854775807 := by omega
    have hidx := nxt_go (bit / 64) q hlp (by omega) hX
    have hi0 := Int.emod_nonneg (bit / 64) (show (q : Int) ≠ 0 by omega)
    have hi1 := Int.emod_lt_of_pos (bit / 64) (show (0 : Int) < q by omega)
    obtain ⟨i, hi⟩ : ∃ i : Nat, bit / 64 % (q : Int) = i := ⟨(bit / 64 % (q : Int)).toNat, by omega⟩
    rw [hi] at hidx hi0 hi1
    have hiq : i < q := by omega
    obtain ⟨z, hz⟩ : ∃ z, pa[i]? = some z := get_lt (by rw [← Hq.out]; exact hiq)
    have cz : w3.cell? ⟨g, i, none⟩ = some (U z) := by rw [hop.cellAt i (by omega), List.getElem?_map, hz]; rfl
    have fz := hop.frozenAt i
    have Hop := hid hop
    clear hop hz hi hX
    go_wp2_with fail
    generalize z ^^^ 1#64 <<< (bit % 64 % 18446744073709551616).toNat = y at *
    have hb4 : Below w.heap.size w (w3.setCell ⟨g, i, none⟩ (U y)) := hb3.setCell (Nat.le_trans hb2s hgB) _
    have ho4 := own_set Hop.out i (U y)
    rw [← List.map_set] at ho4
    have hr4 := Row.of_owns ho4
    generalize w3.setCell ⟨g, i, none⟩ (U y) = w4 at *
    generalize pa.set i y = pb at *
    clear ho4 cz fz hidx
    ((refine (reads_any ws9 _ _ w4 (hl.below hb4 h0) (Hr9.out.lift hb4) (by omega)).mono ?_); rintro r5 w5 ⟨rfl, h5⟩)
    have hb5 := via hb4 h5
    go_wp2_with fail
    ((refine (reads_any pb _ _ w5 (hl.below hb5 h0) (hr4.lift h5) (by omega)).mono ?_); rintro r6 w6 ⟨rfl, h6⟩)
    go_wp2_with fail
    go_ret
    exact ⟨rfl, via hb5 h6⟩
  · obtain rfl : n9 = n := by rw [← hv9, if_neg h9]
    have h9d : decide ((9 : Int) < (n9 : Int)) = false := decide_eq_false (by omega)
    go_enter Tryd.func4, Tryd.ntmps4
    go_wp2_with (go_at_call 11; refine (awake05 _).mono ?_; rintro r1 w1 ⟨rfl, h1⟩)
    -- TAIL
    ((refine (mA _ (HV.out.lift h1)).mono ?_); rintro r2 w2 ⟨sa, rfl, h2, hsa⟩)
    have hb2 := via h1 h2
    clear h1 h2 mA
    go_wp2_with fail
    ((refine (hpa _ _ hsa).mono ?_); rintro r2 w3 ⟨p, rfl, h3, hop⟩)
    have hb3 := via hb2 h3
    obtain ⟨q, hq⟩ : ∃ q, q = pa.length := ⟨_, rfl⟩
    rw [← hq] at hop hla hlp
    have Hq := hid hq
    clear hq hsa hpa
    have hb2s := hb2.size
    obtain ⟨g, cp, rfl, hgB, hcpq⟩ := hop.form hlp
    have hX : -9223372036854775808 ≤ bit / 64 ∧ bit / 64 ≤ 9223372036854775807 := by omega
    have hidx := nxt_go (bit / 64) q hlp (by omega) hX
    have hi0 := Int.emod_nonneg (bit / 64) (show (q : Int) ≠ 0 by omega)
    have hi1 := Int.emod_lt_of_pos (bit / 64) (show (0 : Int) < q by omega)
    obtain ⟨i, hi⟩ : ∃ i : Nat, bit / 64 % (q : Int) = i := ⟨(bit / 64 % (q : Int)).toNat, by omega⟩
    rw [hi] at hidx hi0 hi1
    have hiq : i < q := by omega
    obtain ⟨z, hz⟩ : ∃ z, pa[i]? = some z := get_lt (by rw [← Hq.out]; exact hiq)
    have cz : w3.cell? ⟨g, i, none⟩ = some (U z) := by rw [hop.cellAt i (by omega), List.getElem?_map, hz]; rfl
    have fz := hop.frozenAt i
    have Hop := hid hop
    clear hop hz hi hX
    go_wp2_with fail
    generalize z ^^^ 1#64 <<< (bit % 64 % 18446744073709551616).toNat = y at *
    have hb4 : Below w.heap.size w (w3.setCell ⟨g, i, none⟩ (U y)) := hb3.setCell (Nat.le_trans hb2s hgB) _
    have ho4 := own_set Hop.out i (U y)
    rw [← List.map_set] at ho4
    have hr4 := Row.of_owns ho4
    generalize w3.setCell ⟨g, i, none⟩ (U y) = w4 at *
    generalize pa.set i y = pb at *
    clear ho4 cz fz hidx
    ((refine (reads_any ws9 _ _ w4 (hl.below hb4 h0) (Hr9.out.lift hb4) (by omega)).mono ?_); rintro r5 w5 ⟨rfl, h5⟩)
    have hb5 := via hb4 h5
    go_wp2_with fail
    ((refine (reads_any pb _ _ w5 (hl.below hb5 h0) (hr4.lift h5) (by omega)).mono ?_); rintro r6 w6 ⟨rfl, h6⟩)
    go_wp2_with fail
    go_ret
    exact ⟨rfl, via hb5 h6⟩

theorem law_SchemaReads (u : Value) (n : Nat) (ws : List (BitVec 64)) (v : Value) (k : Nat) (l : List Int) (bit : Int) (w : World) (hl : LaidE w) (hu : Row w 1 u n (ws.map U)) (hv : Row w 1 v k (l.map (Value.int .i64)))
    (hbl : ∀ z ∈ l, -9223372036854775808 ≤ z ∧ z ≤ 9223372036854775807) (hbit : -9223372036854775808 ≤ bit ∧ bit ≤ 9223372036854775807) :
    Calls Tryd.prog 4 #[u, v, .int .i64 bit] w fun r w' => r = .returned (.bool true) ∧ Below w.heap.size w w' :=
  reads_walk ws l u v n bit w hl hu (row_len hv) hbl hbit
end Go.Proofs.YtbhnbjaafejcjaaDoor


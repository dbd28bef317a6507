/- What is told of each part of a struct is it. -/
import Derived.Test.YtmcpanjpjnlleaaDoorLPartsA
import Derived.Test.YtmcpanjpjnlleaaDoorLPartsB
set_option linter.unusedVariables false
namespace Go.Proofs.YtmcpanjpjnlleaaDoor
open Go.RowKit

theorem parts_any (s : Schema) (hr : rightB s = true) (sv : Value) (d : Nat) (hd : d + 1 ≤ 5) (t : Nat) (ht : t < s.length) (v : St (d + 1)) (cs : List Value) (i : Nat) (hi : i < (Node.kids v).length)
    (w : World) (hl : LaidE w) (hs : Sch w sv s) (h : RdS (d + 1) w cs v) (hfit : FitT s (d + 1) t v) :
    Calls Tryd.prog 13 #[sv, .int .i64 t, .agg cs.toArray, .int .i64 i] w fun r w' => r = .returned (.bool true) ∧ Below w.heap.size w w' := by
  obtain ⟨k, hk⟩ := get_lt hi
  have hh : hasB (fieldP s t i).1 k = true := by
    obtain ⟨_, _, _, _, h5⟩ := hfit
    exact (h5 i k hk).1
  rcases has_kind hh with e | e | e | e | e
  · exact parts_k1 s hr sv d hd t ht v cs i k hk w hl hs h hfit e
  · exact parts_k2 s hr sv d hd t ht v cs i k hk w hl hs h hfit e
  · exact parts_k3 s hr sv d hd t ht v cs i k hk w hl hs h hfit e
  · exact parts_k4 s hr sv d hd t ht v cs i k hk w hl hs h hfit e
  · exact parts_k5 s hr sv d hd t ht v cs i k hk w hl hs h hfit e

set_option maxRecDepth 100000 in
set_option maxHeartbeats 40000000 in
theorem tparts_walk (u v : Value) (T : Int) (tl vl : List Int) (w : World) (hl : LaidE w) (hu : Row w 1 u tl.length (tl.map (Value.int .i64))) (hv : Row w 1 v vl.length (vl.map (Value.int .i64)))
    (hub : ∀ z ∈ tl, -9223372036854775808 ≤ z ∧ z ≤ 9223372036854775807) (hvb : ∀ z ∈ vl, -9223372036854775808 ≤ z ∧ z ≤ 9223372036854775807) (hT : -9223372036854775808 ≤ T ∧ T ≤ 9223372036854775807) :
    Calls Tryd.prog 4 #[.agg #[u, v, .int .i64 T]] w fun r w' => r = .returned (.bool true) ∧ Below w.heap.size w w' := by
  obtain ⟨au, cu, hue, _⟩ := hu.open
  obtain ⟨av, cv, hve, _⟩ := hv.open
  obtain ⟨w1, hw1, hb1, hlt1, hbox1⟩ := boxed w #[u, v, .int .i64 T] 24
  have q0 : w1.cell? ⟨w.heap.size, 0, none⟩ = some u := hbox1 0
  have q1 : w1.cell? ⟨w.heap.size, 1, none⟩ = some v := hbox1 1
  have q2 : w1.cell? ⟨w.heap.size, 2, none⟩ = some (.int .i64 T) := hbox1 2
  have hl1 := LaidE.below hl hb1 (LaidE.pos hl)
  have hspec := hid fun W (hW : Below w.heap.size w W) => spec_any 3 4 (by omega) rfl u v T tl vl W (hu.below hW (Nat.le_refl _)) (hv.below hW (Nat.le_refl _)) hub hvb hT
  subst hue hve
  clear hu hv hub hvb hbox1
  go_enter Tryd.func4, Tryd.ntmps4
  go_wp2_with fail
  ((refine (awake06 _ hl1).mono ?_); rintro r2 w2 ⟨rfl, hb2⟩)
  replace q0 := (hb2.cell hlt1).trans q0
  replace q1 := (hb2.cell hlt1).trans q1
  replace q2 := (hb2.cell hlt1).trans q2
  have hb12 := via hb1 hb2
  have hl2 := LaidE.below hl1 hb2 (LaidE.pos hl1)
  clear hw1
  go_wp2_with fail
  ((refine (hspec.out _ hb12).mono ?_); rintro r3 w3 ⟨sv, s, t, x0, x1, x2, x3, X, rfl, hb3, hs, hr, ht, hs4, hrd, hfit⟩)
  obtain ⟨a2, p2, a, cap, hcs, hbs, _, hk, hnm, hkm⟩ := RdN.open hrd
  simp only [List.cons.injEq] at hcs
  obtain ⟨rfl, rfl, rfl, rfl, _⟩ := hcs
  have hb13 := via hb12 hb3
  have hl3 := LaidE.below hl2 hb3 (LaidE.pos hl2)
  clear hspec q0 q1 q2 hb2 hb3 hl1 hl2 hb12 hb1
  have hC0 : checkC s 4 t X = 0 := by rw [checkC, if_pos ⟨hr, by omega, by omega⟩]; exact fit_code s 4 5 t X hfit (by omega)
  obtain ⟨N, hN⟩ : ∃ N, N = (Node.kids X).length := ⟨_, rfl⟩
  obtain ⟨sa, scap, hsv, _, _, hsm⟩ := hs.shape
  unfold maxLen at hsm
  obtain ⟨n, hn⟩ : ∃ n, n = s.length := ⟨_, rfl⟩
  rw [← hn] at hsm hsv
  subst hsv
  rw [← hN] at hk hkm ⊢
  obtain ⟨w4, hw4, hb4, hz4, hV⟩ := TB.make w3 (U (Node.num X)) (.string (Node.bytes X)) (.slice a2 (Node.nums X).length p2) (.slice a N cap) 34
  have hb14 := via hb13 hb4
  have hl4 := LaidE.below hl3 hb4 (LaidE.pos hl3)
  have Hs := hid fun W (hW : Below w4.heap.size w4 W) => (hs.below hb4 (Nat.le_refl _)).below hW (Nat.le_refl _)
  have Hrd := hid fun W (hW : Below w4.heap.size w4 W) => (hrd.below hb4 (Nat.le_refl _)).below hW (Nat.le_refl _)
  rw [← hN] at Hrd
  have Hpart := hid fun (i : Nat) (hi : i < N) W (hW : Below w4.heap.size w4 W) => parts_any s hr _ 3 (by omega) t ht X _ i (by rw [← hN]; exact hi) W (LaidE.below hl4 hW (LaidE.pos hl4)) (Hs.out W hW) (Hrd.out W hW) hfit
  have Hcall := hid fun (path : List Int) (pv : Value) W (hW : Below w4.heap.size w4 W) (hp : Ints W pv path) => tget_any s (.slice sa n scap) 4 (t : Int) X _ path pv W (Hs.out W hW) (Hrd.out W hW) hp
  have Htop := hid fun (x : Int) W (hW : Below w4.heap.size w4 W) => top_err x W (LaidE.below hl4 hW (LaidE.pos hl4))
  have Hpast := hid (getC_past hC0 [] N (by rw [← hN]; exact Nat.le_refl _))
  have Hnil := hid (getC_nil hC0)
  have ⟨ltV, y0, y1, y2, y3, _⟩ := hV
  have Hcell := hid fun W (hW : Below w4.heap.size w4 W) => show W.cell? ⟨w3.heap.size, 0, none⟩ = some (U (Node.num X)) ∧ W.cell? ⟨w3.heap.size, 1, none⟩ = some (.string (Node.bytes X)) ∧ W.cell? ⟨w3.heap.size, 2, none⟩ = some (.slice a2 (Node.nums X).length p2) ∧ W.cell? ⟨w3.heap.size, 3, none⟩ = some (.slice a N cap) from
    ⟨(hW.cell ltV).trans y0, (hW.cell ltV).trans y1, (hW.cell ltV).trans y2, (hW.cell ltV).trans y3⟩
  have Hbr := hid (Below.refl w4.heap.size w4)
  clear hs hrd hk hN hn hC0 hb13 hl3 hfit hr ht hV Hs Hrd hb4 hz4 hl4
  clear y0 y1 y2 y3
  go_wp2_with fail
  clear hw4
  go_loopw [7] (fun iv wr => ∃ i : Nat, i ≤ N ∧ iv = .int .i64 i ∧ Below w4.heap.size w4 wr) (fun iv _ => N - (intOf iv).toNat)
  case atStart => exact ⟨0, Nat.zero_le _, rfl, Hbr.out⟩
  case round =>
    obtain ⟨i, hi, rfl, hbl⟩ := hrel
    by_cases hiN : i < N
    · obtain ⟨g0, g1, g2, g3⟩ := Hcell.out _ hbl
      go_wp2_with fail
      clear g0 g1 g2 g3
      ((refine (Hpart.out i hiN _ hbl).mono ?_); rintro ra wa ⟨rfl, ha⟩)
      have hba := hbl.trans (ha.mono hbl.size)
      clear ha
      go_wp2_with fail
      go_roundw
      case rel => exact ⟨i + 1, by omega, by go_num, hba⟩
      case measure => simp [intOf] <;> omega
    · obtain rfl : i = N := by omega
      have hp5 := row_new wr #[.int .i64 i] 3 1 1 rfl (by simp [maxLen])
      have hb5 := hbl.trans ((below_alloc wr (.cells #[.int .i64 i] 3)).mono hbl.size)
      have hv5 := Hcall.out [i] _ _ hb5 hp5
      rw [Hpast.out] at hv5
      obtain ⟨g0, g1, g2, g3⟩ := Hcell.out _ hbl
      go_wp2_with fail
      clear g0 g1 g2 g3
      ((refine hv5.mono ?_); rintro r5 w5 ⟨rfl, hc5⟩)
      have hB5 := hb5.trans (hc5.mono hb5.size)
      clear hp5 hb5 hv5 hc5
      obtain ⟨g0, g1, g2, g3⟩ := Hcell.out _ hB5
      have hv6 := Hcall.out [] (.slice none 0 0) _ hB5 (Row.nil _ 1)
      rw [Hnil.out] at hv6
      go_wp2_with fail
      clear g0 g1 g2 g3
      ((refine hv6.mono ?_); rintro r6 w6 ⟨rfl, hc6⟩)
      have hB6 := hB5.trans (hc6.mono hB5.size)
      clear hv6 hc6
      go_wp2_with fail
      ((refine (Htop.out 1 _ hB6).mono ?_); rintro r7 w7 ⟨rfl, hc7⟩)
      have hB7 := hB6.trans (hc7.mono hB6.size)
      clear hc7
      go_wp2_with fail
      ((refine (Htop.out 1 _ hB7).mono ?_); rintro r8 w8 ⟨rfl, hc8⟩)
      have hB8 := via hb14 (hB7.trans (hc8.mono hB7.size))
      clear hc8
      go_wp2_with fail
      go_returns
      exact ⟨rfl, hB8⟩

theorem row_lenS {w : World} {v : Value} {n : Nat} {l : List Int} (h : Row w 1 v n (l.map (Value.int .i64))) : Row w 1 v l.length (l.map (Value.int .i64)) := by
  have : l.length = n := by have := h.len; simpa using this
  rw [this]; exact h
theorem law_TreeParts (u v : Value) (n m : Nat) (tl vl : List Int) (T : Int) (w : World) (hl : LaidE w) (hu : Row w 1 u n (tl.map (Value.int .i64))) (hv : Row w 1 v m (vl.map (Value.int .i64)))
    (hub : ∀ z ∈ tl, -9223372036854775808 ≤ z ∧ z ≤ 9223372036854775807) (hvb : ∀ z ∈ vl, -9223372036854775808 ≤ z ∧ z ≤ 9223372036854775807) (hT : -9223372036854775808 ≤ T ∧ T ≤ 9223372036854775807) :
    Calls Tryd.prog 4 #[.agg #[u, v, .int .i64 T]] w fun r w' => r = .returned (.bool true) ∧ Below w.heap.size w w' :=
  tparts_walk u v T tl vl w hl (row_lenS hu) (row_lenS hv) hub hvb hT
end Go.Proofs.YtmcpanjpjnlleaaDoor


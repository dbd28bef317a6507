/- A struct by numbers, as layer 7's laws make it. -/
import Derived.Test.YtogaclolodlnbaaDoorGi
set_option linter.unusedVariables false
set_option linter.unusedSimpArgs false
namespace Go.Proofs.YtogaclolodlnbaaDoor
section SMadeB2
open Go.RowKit

set_option maxRecDepth 100000 in
set_option maxHeartbeats 8000000 in
theorem spec7_any (D E : Nat) (hD : D ≤ 64) (hE : E = D + 1) (u v : Value) (T : Int) (tl vl : List Int) (w : World) (hu : Row w 1 u tl.length (tl.map (Value.int .i64))) (hv : Row w 1 v vl.length (vl.map (Value.int .i64)))
    (hub : ∀ z ∈ tl, -9223372036854775808 ≤ z ∧ z ≤ 9223372036854775807) (hvb : ∀ z ∈ vl, -9223372036854775808 ≤ z ∧ z ≤ 9223372036854775807) (hT : -9223372036854775808 ≤ T ∧ T ≤ 9223372036854775807) :
    Calls Tryd.prog 24 #[.agg #[u, v, .int .i64 T], .int .i64 E] w (SpecP D w) := by
  obtain ⟨au, cu, rfl, _⟩ := hu.open
  obtain ⟨av, cv, rfl, hcv, _, hvc⟩ := hv.open
  obtain ⟨w1, hw1, hb1, hlt1, hbox1⟩ := boxed w #[.slice au tl.length cu, .slice av vl.length cv, .int .i64 T] 46
  have q0 : w1.cell? ⟨w.heap.size, 0, none⟩ = some (.slice au tl.length cu) := hbox1 0
  have q1 : w1.cell? ⟨w.heap.size, 1, none⟩ = some (.slice av vl.length cv) := hbox1 1
  have q2 : w1.cell? ⟨w.heap.size, 2, none⟩ = some (.int .i64 T) := hbox1 2
  obtain ⟨w2, hw2, hb2, hz2, hR⟩ := TB.make w1 (.int .u64 0) (.string ⟨#[]⟩) (.slice none 0 0) (.slice none 0 0) 49
  replace q0 := (hb2.cell hlt1).trans q0
  replace q1 := (hb2.cell hlt1).trans q1
  replace q2 := (hb2.cell hlt1).trans q2
  have hb12 := via hb1 hb2
  have hmade := hid (made_any tl (.slice au tl.length cu) w2 (hu.below hb12 (Nat.le_refl _)) hub)
  obtain ⟨hSr, hS1, hS4, _⟩ := madeS_ok tl
  obtain ⟨n, hn⟩ : ∃ n, n = (madeS tl).length := ⟨_, rfl⟩
  have Hn := hid hn
  rw [← hn] at hS1 hS4
  have Hv := hid hv
  have Hvb := hid hvb
  have Hvc := hid hvc
  have HE := hid hE
  have HSr := hid hSr
  have hvm := hv.most
  unfold maxLen at hvm
  obtain ⟨m, hm⟩ : ∃ m, m = vl.length := ⟨_, rfl⟩
  have Hm := hid hm
  clear hu hv hub hvb hbox1 hn hvc hE hSr
  rw [← hm] at hw1 q1 hcv hvm ⊢
  clear hm
  go_enter Tryd.func24, Tryd.ntmps24
  go_wp2_with fail
  ((refine hmade.out.mono ?_); rintro r3 w3 ⟨sv, rfl, hb3, hown⟩)
  have hsch := hown.sch
  obtain ⟨sa, scap, rfl, _, _, hsm⟩ := hsch.shape
  rw [← Hn.out] at hsm hsch hown ⊢
  have Hown := hid hown
  have Hs := hid hsch
  clear hmade hown hw1 hw2 hsch
  generalize madeS tl = S at *
  have hlt2 : w.heap.size < w2.heap.size := Nat.lt_of_lt_of_le hlt1 hb2.size
  replace q0 := (hb3.cell hlt2).trans q0
  replace q1 := (hb3.cell hlt2).trans q1
  replace q2 := (hb3.cell hlt2).trans q2
  replace hR := hR.below hb3
  have hB3 := via hb12 hb3
  have hn1 : (1 : Int) ≤ (n : Int) := by omega
  have hnz : ((n : Int) == 0) = false := by rw [beq_eq_false_iff_ne]; omega
  have t1 := Int.tmod_lt_of_pos T (show (0 : Int) < n by omega)
  have t2 := Int.lt_tmod_of_pos T (show (0 : Int) < n by omega)
  obtain ⟨x, hx⟩ : ∃ x, Int.tmod T (n : Int) = x := ⟨_, rfl⟩
  rw [hx] at t1 t2
  have e0 := Int.emod_nonneg (x + (n : Int)) (show (n : Int) ≠ 0 by omega)
  have e1 := Int.emod_lt_of_pos (x + (n : Int)) (show (0 : Int) < n by omega)
  obtain ⟨t, ht⟩ : ∃ t : Nat, (x + (n : Int)) % (n : Int) = (t : Int) := ⟨((x + (n : Int)) % (n : Int)).toNat, by omega⟩
  have ht' : x % (n : Int) = (t : Int) := by rw [← ht]; simp
  have htn : t < n := by omega
  clear e0 e1
  have Hcall := hid fun (lv : Value) (ls : List Int) (h1 : Row w3 1 lv ls.length (ls.map (Value.int .i64))) (h2 : ∀ z ∈ ls, -9223372036854775808 ≤ z ∧ z ≤ 9223372036854775807) => madeM_any S HSr.out (.slice sa n scap) D E hD HE.out t (by rw [← Hn.out]; exact htn) lv ls w3 Hs.out h1 h2
  have ⟨_, k0, k1, k2, k3, kf⟩ := hR
  by_cases hm90 : 90 < m
  · have hm90' : (90 : Int) < (m : Int) := by omega
    have hcv90 : (90 : Int) ≤ (cv : Int) := by omega
    have hc := hid (Hcall.out (.slice av 90 cv) (vl.take 90) (row_cut (n := m) (by have h := Hv.out.below hB3 (Nat.le_refl _); rw [← Hm.out] at h ⊢; exact h) Hm.out (by omega)) (fun z hz => Hvb.out z (List.mem_of_mem_take hz)))
    clear k0 k1 k2 k3 kf
    go_wp2_with fail
    ((refine hc.out.mono ?_); rintro r4 w4 ⟨x0, x1, x2, x3, X, rfl, hb4, hrd, hft⟩)
    obtain ⟨a2, p2, a3, p3, hcs, _⟩ := RdN.open hrd.now
    simp only [List.cons.injEq] at hcs
    obtain ⟨rfl, rfl, rfl, rfl, _⟩ := hcs
    have hR4 := hR.below hb4
    have ⟨_, k0, k1, k2, k3, kf⟩ := hR4
    have kf0 := kf 0
    have kf1 := kf 1
    have kf2 := kf 2
    have kf3 := kf 3
    obtain ⟨w6, hw6⟩ : ∃ w6, w6 = (((w4.setCell ⟨w1.heap.size, 0, none⟩ (U (Node.num X))).setCell ⟨w1.heap.size, 1, none⟩ (.string (Node.bytes X))).setCell ⟨w1.heap.size, 2, none⟩ (.slice a2 (Node.nums X).length p2)).setCell ⟨w1.heap.size, 3, none⟩ (.slice a3 (Node.kids X).length p3) := ⟨_, rfl⟩
    have hR6 : TB w6 w1.heap.size (U (Node.num X)) (.string (Node.bytes X)) (.slice a2 (Node.nums X).length p2) (.slice a3 (Node.kids X).length p3) := by rw [hw6]; exact (((hR4.set0 _).set1 _).set2 _).set3 _
    have hb6 : Below w.heap.size w w6 := by
      rw [hw6]
      exact ((((via hB3 hb4).setCell (p := ⟨w1.heap.size, 0, none⟩) hb1.size _).setCell (p := ⟨w1.heap.size, 1, none⟩) hb1.size _).setCell (p := ⟨w1.heap.size, 2, none⟩) hb1.size _).setCell (p := ⟨w1.heap.size, 3, none⟩) hb1.size _
    have hs6 : w6.heap.size = w4.heap.size := by rw [hw6]; simp [World.setCell]
    have hk6 : ∀ b, b ≠ w1.heap.size → w6.heap[b]? = w4.heap[b]? := fun b hb => by
      rw [hw6, Below.heap_setCell _ _ _ _ hb, Below.heap_setCell _ _ _ _ hb, Below.heap_setCell _ _ _ _ hb, Below.heap_setCell _ _ _ _ hb]
    have hrd6 := hrd w6 fun b hb hg => hk6 b fun e => hg (by have := hb3.size; show b < w3.heap.size; omega)
    have hs4 : Sch w6 (.slice sa n scap) S := (ownS_keep Hown.out fun g h1 h2 => (hk6 g (by omega)).trans (hb4.block g h2)).sch
    have hw6' := hw6.symm
    clear hw6 hs6 hk6 hrd hR4 hb4
    go_wp2_with fail
    clear k0 k1 k2 k3 kf kf0 kf1 kf2 kf3 hw6'
    have ⟨_, r0, r1, r2, r3, _⟩ := hR6
    (try simp only [Exit.inBlock, Exit.then])
    refine bodyPost_ret (by simp [results, Tryd.results24, go_sem, r0, r1, r2, r3]; try rfl) rfl ?_
    exact ⟨_, S, t, _, _, _, _, X, by first | rfl | rw [ht] | rw [ht'], hb6, hs4, HSr.out, by rw [← Hn.out]; exact htn, by rw [← Hn.out]; exact hS4, hrd6, hft⟩
  · have hm90' : (m : Int) ≤ 90 := by omega
    have hc := hid (Hcall.out (.slice av m cv) vl (by have h := Hv.out.below hB3 (Nat.le_refl _); rw [← Hm.out] at h ⊢; exact h) (fun z hz => Hvb.out z hz))
    clear k0 k1 k2 k3 kf
    go_wp2_with fail
    ((refine hc.out.mono ?_); rintro r4 w4 ⟨x0, x1, x2, x3, X, rfl, hb4, hrd, hft⟩)
    obtain ⟨a2, p2, a3, p3, hcs, _⟩ := RdN.open hrd.now
    simp only [List.cons.injEq] at hcs
    obtain ⟨rfl, rfl, rfl, rfl, _⟩ := hcs
    have hR4 := hR.below hb4
    have ⟨_, k0, k1, k2, k3, kf⟩ := hR4
    have kf0 := kf 0
    have kf1 := kf 1
    have kf2 := kf 2
    have kf3 := kf 3
    obtain ⟨w6, hw6⟩ : ∃ w6, w6 = (((w4.setCell ⟨w1.heap.size, 0, none⟩ (U (Node.num X))).setCell ⟨w1.heap.size, 1, none⟩ (.string (Node.bytes X))).setCell ⟨w1.heap.size, 2, none⟩ (.slice a2 (Node.nums X).length p2)).setCell ⟨w1.heap.size, 3, none⟩ (.slice a3 (Node.kids X).length p3) := ⟨_, rfl⟩
    have hR6 : TB w6 w1.heap.size (U (Node.num X)) (.string (Node.bytes X)) (.slice a2 (Node.nums X).length p2) (.slice a3 (Node.kids X).length p3) := by rw [hw6]; exact (((hR4.set0 _).set1 _).set2 _).set3 _
    have hb6 : Below w.heap.size w w6 := by
      rw [hw6]
      exact ((((via hB3 hb4).setCell (p := ⟨w1.heap.size, 0, none⟩) hb1.size _).setCell (p := ⟨w1.heap.size, 1, none⟩) hb1.size _).setCell (p := ⟨w1.heap.size, 2, none⟩) hb1.size _).setCell (p := ⟨w1.heap.size, 3, none⟩) hb1.size _
    have hs6 : w6.heap.size = w4.heap.size := by rw [hw6]; simp [World.setCell]
    have hk6 : ∀ b, b ≠ w1.heap.size → w6.heap[b]? = w4.heap[b]? := fun b hb => by
      rw [hw6, Below.heap_setCell _ _ _ _ hb, Below.heap_setCell _ _ _ _ hb, Below.heap_setCell _ _ _ _ hb, Below.heap_setCell _ _ _ _ hb]
    have hrd6 := hrd w6 fun b hb hg => hk6 b fun e => hg (by have := hb3.size; show b < w3.heap.size; omega)
    have hs4 : Sch w6 (.slice sa n scap) S := (ownS_keep Hown.out fun g h1 h2 => (hk6 g (by omega)).trans (hb4.block g h2)).sch
    have hw6' := hw6.symm
    clear hw6 hs6 hk6 hrd hR4 hb4
    go_wp2_with fail
    clear k0 k1 k2 k3 kf kf0 kf1 kf2 kf3 hw6'
    have ⟨_, r0, r1, r2, r3, _⟩ := hR6
    (try simp only [Exit.inBlock, Exit.then])
    refine bodyPost_ret (by simp [results, Tryd.results24, go_sem, r0, r1, r2, r3]; try rfl) rfl ?_
    exact ⟨_, S, t, _, _, _, _, X, by first | rfl | rw [ht] | rw [ht'], hb6, hs4, HSr.out, by rw [← Hn.out]; exact htn, by rw [← Hn.out]; exact hS4, hrd6, hft⟩
end SMadeB2

end Go.Proofs.YtogaclolodlnbaaDoor


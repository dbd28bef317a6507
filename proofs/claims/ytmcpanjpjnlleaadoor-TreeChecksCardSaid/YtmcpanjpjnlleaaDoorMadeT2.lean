/- A struct by numbers, as the laws make it. -/
import Derived.Test.YtmcpanjpjnlleaaDoorMadeT
set_option linter.unusedVariables false
namespace Go.Proofs.YtmcpanjpjnlleaaDoor
open Go.RowKit

def MadeMP (s : Schema) (D : Nat) (t : Nat) (w : World) (e : Ending) (w' : World) : Prop :=
  ∃ x0 x1 x2 x3 X, e = .returned (.agg #[x0, x1, x2, x3]) ∧ Below w.heap.size w w' ∧ KW (fun b => b < w.heap.size) w' (fun W => RdS (D + 1) W [x0, x1, x2, x3] X) ∧ FitT s (D + 1) t X

set_option maxRecDepth 100000 in
set_option maxHeartbeats 8000000 in
theorem madeM_any (s : Schema) (hr : rightB s = true) (sv : Value) (D E : Nat) (hD : D ≤ 64) (hE : E = D + 1) (t : Nat) (ht : t < s.length) (lv : Value) (ls : List Int) (w : World) (hs : Sch w sv s) (hrow : Row w 1 lv ls.length (ls.map (Value.int .i64)))
    (hb : ∀ z ∈ ls, -9223372036854775808 ≤ z ∧ z ≤ 9223372036854775807) :
    Calls Tryd.prog 27 #[sv, .int .i64 t, lv, .int .i64 E] w (MadeMP s D t w) := by
  obtain ⟨w1, hw1, hb1, hz1, hR⟩ := TB.make w (.int .u64 0) (.string ⟨#[]⟩) (.slice none 0 0) (.slice none 0 0) 34
  have hcall := hid (madeT_any s hr sv D E hD hE t ht lv ls w1 (hs.below hb1 (Nat.le_refl _)) (hrow.below hb1 (Nat.le_refl _)) hb)
  clear hs hrow hb hE
  go_enter Tryd.func27, Tryd.ntmps27
  go_wp2_with fail
  ((refine hcall.out.mono ?_); rintro r5 w5 ⟨cs, X, lv5, ls5, rfl, hb5, hrd, hft, _⟩)
  obtain ⟨a2, p2, a3, p3, rfl, _⟩ := RdN.open hrd.now
  clear hcall hw1
  have Hrd := hid (And.intro hrd hft)
  clear hrd hft
  have hR5 := hR.below hb5
  have ⟨_, k0, k1, k2, k3, kf⟩ := hR5
  have kf0 := kf 0
  have kf1 := kf 1
  have kf2 := kf 2
  have kf3 := kf 3
  obtain ⟨w6, hw6⟩ : ∃ w6, w6 = (((w5.setCell ⟨w.heap.size, 0, none⟩ (U (Node.num X))).setCell ⟨w.heap.size, 1, none⟩ (.string (Node.bytes X))).setCell ⟨w.heap.size, 2, none⟩ (.slice a2 (Node.nums X).length p2)).setCell ⟨w.heap.size, 3, none⟩ (.slice a3 (Node.kids X).length p3) := ⟨_, rfl⟩
  have hR6 : TB w6 w.heap.size (U (Node.num X)) (.string (Node.bytes X)) (.slice a2 (Node.nums X).length p2) (.slice a3 (Node.kids X).length p3) := by rw [hw6]; exact (((hR5.set0 _).set1 _).set2 _).set3 _
  have hb6 : Below w.heap.size w w6 := by
    rw [hw6]
    exact ((((via hb1 hb5).setCell (p := ⟨w.heap.size, 0, none⟩) (Nat.le_refl _) _).setCell (p := ⟨w.heap.size, 1, none⟩) (Nat.le_refl _) _).setCell (p := ⟨w.heap.size, 2, none⟩) (Nat.le_refl _) _).setCell (p := ⟨w.heap.size, 3, none⟩) (Nat.le_refl _) _
  have hs6 : w6.heap.size = w5.heap.size := by rw [hw6]; simp [World.setCell]
  have hk6 : ∀ b, b ≠ w.heap.size → w6.heap[b]? = w5.heap[b]? := fun b hb => by
    rw [hw6, Below.heap_setCell _ _ _ _ hb, Below.heap_setCell _ _ _ _ hb, Below.heap_setCell _ _ _ _ hb, Below.heap_setCell _ _ _ _ hb]
  have hA := below_alloc w6 (.cells #[U (Node.num X), .string (Node.bytes X), .slice a2 (Node.nums X).length p2, .slice a3 (Node.kids X).length p3] 34)
  have hR7 := hR6.below hA
  have hK : KW (fun b => b < w.heap.size) w6 (fun W => RdS (D + 1) W [U (Node.num X), .string (Node.bytes X), .slice a2 (Node.nums X).length p2, .slice a3 (Node.kids X).length p3] X) :=
    Hrd.out.1.step (by omega) fun b hb hg => ⟨fun e => hg (by show b < w1.heap.size; omega), hk6 b fun e => hg (by show b < w1.heap.size; omega)⟩
  have Hfin := hid (And.intro (via hb6 hA) (And.intro (hK.below hA) Hrd.out.2))
  have hw6' := hw6.symm
  clear hw6 hb6 hs6 hk6 hA hK Hrd hR6 hb5 hb1
  go_wp2_with fail
  clear k0 k1 k2 k3 kf kf0 kf1 kf2 kf3
  clear hw6'
  generalize w6.alloc (.cells #[U (Node.num X), .string (Node.bytes X), .slice a2 (Node.nums X).length p2, .slice a3 (Node.kids X).length p3] 34) = w9 at *
  have ⟨_, r0, r1, r2, r3, _⟩ := hR7
  (try simp only [Exit.inBlock, Exit.then])
  refine bodyPost_ret (by simp [results, Tryd.results27, go_sem, r0, r1, r2, r3]; try rfl) rfl ?_
  obtain ⟨g1, g2, g3⟩ := Hfin.out
  exact ⟨_, _, _, _, X, rfl, g1, g2, g3⟩

theorem ownS_keep {w w' : World} {base : Nat} {v : Value} {s : Schema} (h : OwnS w base v s) (hk : ∀ g, base ≤ g → g < w.heap.size → w'.heap[g]? = w.heap[g]?) : OwnS w' base v s := by
  obtain ⟨vs, g1, g2⟩ := h
  exact ⟨vs, own_keep g1 fun g e => hk g (own_blk g1 e).2 (own_blk g1 e).1.lt, fun i l hl => by
    obtain ⟨u, hu, ho⟩ := g2 i l hl
    exact ⟨u, hu, own_keep ho fun g e => hk g (own_blk ho e).2 (own_blk ho e).1.lt⟩⟩
theorem row_cut {w : World} {a : Option Addr} {n cap k : Nat} {l : List Int} (h : Row w 1 (.slice a n cap) l.length (l.map (Value.int .i64))) (hn : n = l.length) (hk : k ≤ n) : Row w 1 (.slice a k cap) (l.take k).length ((l.take k).map (Value.int .i64)) := by
  obtain ⟨h1, h2, a', c', e, h4, h5, h6, h7⟩ := h
  simp only [Value.slice.injEq] at e
  obtain ⟨rfl, _, rfl⟩ := e
  have hl : (l.take k).length = k := by rw [List.length_take]; omega
  rw [hl]
  refine ⟨by simp; omega, by omega, a, cap, rfl, by omega, h5, h6, fun h0 => ?_⟩
  obtain ⟨b, off, e1, e2, e3⟩ := h7 (by omega)
  refine ⟨b, off, e1, e2, fun j hj => ?_⟩
  rw [e3 j (by omega), List.map_take, List.getElem?_take, if_pos (by omega)]

def SpecP (D : Nat) (w : World) (e : Ending) (w' : World) : Prop :=
  ∃ sv s t x0 x1 x2 x3 X, e = .returned (.tuple #[sv, .int .i64 (t : Nat), .agg #[x0, x1, x2, x3]]) ∧ Below w.heap.size w w' ∧ Sch w' sv s ∧ rightB s = true ∧ t < s.length ∧ s.length ≤ 4 ∧ RdS (D + 1) w' [x0, x1, x2, x3] X ∧ FitT s (D + 1) t X

set_option maxRecDepth 100000 in
set_option maxHeartbeats 8000000 in
theorem spec_any (D E : Nat) (hD : D ≤ 64) (hE : E = D + 1) (u v : Value) (T : Int) (tl vl : List Int) (w : World) (hu : Row w 1 u tl.length (tl.map (Value.int .i64))) (hv : Row w 1 v vl.length (vl.map (Value.int .i64)))
    (hub : ∀ z ∈ tl, -9223372036854775808 ≤ z ∧ z ≤ 9223372036854775807) (hvb : ∀ z ∈ vl, -9223372036854775808 ≤ z ∧ z ≤ 9223372036854775807) (hT : -9223372036854775808 ≤ T ∧ T ≤ 9223372036854775807) :
    Calls Tryd.prog 10 #[.agg #[u, v, .int .i64 T], .int .i64 E] w (SpecP D w) := by
  obtain ⟨au, cu, rfl, _⟩ := hu.open
  obtain ⟨av, cv, rfl, hcv, _, hvc⟩ := hv.open
  obtain ⟨w1, hw1, hb1, hlt1, hbox1⟩ := boxed w #[.slice au tl.length cu, .slice av vl.length cv, .int .i64 T] 24
  have q0 : w1.cell? ⟨w.heap.size, 0, none⟩ = some (.slice au tl.length cu) := hbox1 0
  have q1 : w1.cell? ⟨w.heap.size, 1, none⟩ = some (.slice av vl.length cv) := hbox1 1
  have q2 : w1.cell? ⟨w.heap.size, 2, none⟩ = some (.int .i64 T) := hbox1 2
  obtain ⟨w2, hw2, hb2, hz2, hR⟩ := TB.make w1 (.int .u64 0) (.string ⟨#[]⟩) (.slice none 0 0) (.slice none 0 0) 34
  replace q0 := (hb2.cell hlt1).trans q0
  replace q1 := (hb2.cell hlt1).trans q1
  replace q2 := (hb2.cell hlt1).trans q2
  have hb12 := via hb1 hb2
  have hmade := hid (made_any tl (.slice au tl.length cu) w2 (hu.below hb12 (Nat.le_refl _)) hub)
  obtain ⟨hSr, hS1, hS4, _⟩ := madeS_ok tl
  obtain ⟨n, hn⟩ : ∃ n, n = (madeS tl).length := ⟨_, rfl⟩
  have Hn := hid hn
  rw [← hn] at hS1 hS4
  have Hv := hid hv
  have Hvb := hid hvb
  have Hvc := hid hvc
  have HE := hid hE
  have HSr := hid hSr
  have hvm := hv.most
  unfold maxLen at hvm
  obtain ⟨m, hm⟩ : ∃ m, m = vl.length := ⟨_, rfl⟩
  have Hm := hid hm
  clear hu hv hub hvb hbox1 hn hvc hE hSr
  rw [← hm] at hw1 q1 hcv hvm ⊢
  clear hm
  go_enter Tryd.func10, Tryd.ntmps10
  go_wp2_with fail
  ((refine hmade.out.mono ?_); rintro r3 w3 ⟨sv, rfl, hb3, hown⟩)
  have hsch := hown.sch
  obtain ⟨sa, scap, rfl, _, _, hsm⟩ := hsch.shape
  rw [← Hn.out] at hsm hsch hown ⊢
  have Hown := hid hown
  have Hs := hid hsch
  clear hmade hown hw1 hw2 hsch
  generalize madeS tl = S at *
  have hlt2 : w.heap.size < w2.heap.size := Nat.lt_of_lt_of_le hlt1 hb2.size
  replace q0 := (hb3.cell hlt2).trans q0
  replace q1 := (hb3.cell hlt2).trans q1
  replace q2 := (hb3.cell hlt2).trans q2
  replace hR := hR.below hb3
  have hB3 := via hb12 hb3
  have hn1 : (1 : Int) ≤ (n : Int) := by omega
  have hnz : ((n : Int) == 0) = false := by rw [beq_eq_false_iff_ne]; omega
  have t1 := Int.tmod_lt_of_pos T (show (0 : Int) < n by omega)
  have t2 := Int.lt_tmod_of_pos T (show (0 : Int) < n by omega)
  obtain ⟨x, hx⟩ : ∃ x, Int.tmod T (n : Int) = x := ⟨_, rfl⟩
  rw [hx] at t1 t2
  have e0 := Int.emod_nonneg (x + (n : Int)) (show (n : Int) ≠ 0 by omega)
  have e1 := Int.emod_lt_of_pos (x + (n : Int)) (show (0 : Int) < n by omega)
  obtain ⟨t, ht⟩ : ∃ t : Nat, (x + (n : Int)) % (n : Int) = (t : Int) := ⟨((x + (n : Int)) % (n : Int)).toNat, by omega⟩
  have ht' : x % (n : Int) = (t : Int) := by rw [← ht]; simp
  have htn : t < n := by omega
  clear e0 e1
  have Hcall := hid fun (lv : Value) (ls : List Int) (h1 : Row w3 1 lv ls.length (ls.map (Value.int .i64))) (h2 : ∀ z ∈ ls, -9223372036854775808 ≤ z ∧ z ≤ 9223372036854775807) => madeM_any S HSr.out (.slice sa n scap) D E hD HE.out t (by rw [← Hn.out]; exact htn) lv ls w3 Hs.out h1 h2
  have ⟨_, k0, k1, k2, k3, kf⟩ := hR
  by_cases hm60 : 60 < m
  · have hm60' : (60 : Int) < (m : Int) := by omega
    have hcv60 : (60 : Int) ≤ (cv : Int) := by omega
    have hc := hid (Hcall.out (.slice av 60 cv) (vl.take 60) (row_cut (n := m) (by have h := Hv.out.below hB3 (Nat.le_refl _); rw [← Hm.out] at h ⊢; exact h) Hm.out (by omega)) (fun z hz => Hvb.out z (List.mem_of_mem_take hz)))
    clear k0 k1 k2 k3 kf
    go_wp2_with fail
    ((refine hc.out.mono ?_); rintro r4 w4 ⟨x0, x1, x2, x3, X, rfl, hb4, hrd, hft⟩)
    obtain ⟨a2, p2, a3, p3, hcs, _⟩ := RdN.open hrd.now
    simp only [List.cons.injEq] at hcs
    obtain ⟨rfl, rfl, rfl, rfl, _⟩ := hcs
    have hR4 := hR.below hb4
    have ⟨_, k0, k1, k2, k3, kf⟩ := hR4
    have kf0 := kf 0
    have kf1 := kf 1
    have kf2 := kf 2
    have kf3 := kf 3
    obtain ⟨w6, hw6⟩ : ∃ w6, w6 = (((w4.setCell ⟨w1.heap.size, 0, none⟩ (U (Node.num X))).setCell ⟨w1.heap.size, 1, none⟩ (.string (Node.bytes X))).setCell ⟨w1.heap.size, 2, none⟩ (.slice a2 (Node.nums X).length p2)).setCell ⟨w1.heap.size, 3, none⟩ (.slice a3 (Node.kids X).length p3) := ⟨_, rfl⟩
    have hR6 : TB w6 w1.heap.size (U (Node.num X)) (.string (Node.bytes X)) (.slice a2 (Node.nums X).length p2) (.slice a3 (Node.kids X).length p3) := by rw [hw6]; exact (((hR4.set0 _).set1 _).set2 _).set3 _
    have hb6 : Below w.heap.size w w6 := by
      rw [hw6]
      exact ((((via hB3 hb4).setCell (p := ⟨w1.heap.size, 0, none⟩) hb1.size _).setCell (p := ⟨w1.heap.size, 1, none⟩) hb1.size _).setCell (p := ⟨w1.heap.size, 2, none⟩) hb1.size _).setCell (p := ⟨w1.heap.size, 3, none⟩) hb1.size _
    have hs6 : w6.heap.size = w4.heap.size := by rw [hw6]; simp [World.setCell]
    have hk6 : ∀ b, b ≠ w1.heap.size → w6.heap[b]? = w4.heap[b]? := fun b hb => by
      rw [hw6, Below.heap_setCell _ _ _ _ hb, Below.heap_setCell _ _ _ _ hb, Below.heap_setCell _ _ _ _ hb, Below.heap_setCell _ _ _ _ hb]
    have hrd6 := hrd w6 fun b hb hg => hk6 b fun e => hg (by have := hb3.size; show b < w3.heap.size; omega)
    have hs4 : Sch w6 (.slice sa n scap) S := (ownS_keep Hown.out fun g h1 h2 => (hk6 g (by omega)).trans (hb4.block g h2)).sch
    have hw6' := hw6.symm
    clear hw6 hs6 hk6 hrd hR4 hb4
    go_wp2_with fail
    clear k0 k1 k2 k3 kf kf0 kf1 kf2 kf3 hw6'
    have ⟨_, r0, r1, r2, r3, _⟩ := hR6
    (try simp only [Exit.inBlock, Exit.then])
    refine bodyPost_ret (by simp [results, Tryd.results10, go_sem, r0, r1, r2, r3]; try rfl) rfl ?_
    exact ⟨_, S, t, _, _, _, _, X, by first | rfl | rw [ht] | rw [ht'], hb6, hs4, HSr.out, by rw [← Hn.out]; exact htn, by rw [← Hn.out]; exact hS4, hrd6, hft⟩
  · have hm60' : (m : Int) ≤ 60 := by omega
    have hc := hid (Hcall.out (.slice av m cv) vl (by have h := Hv.out.below hB3 (Nat.le_refl _); rw [← Hm.out] at h ⊢; exact h) (fun z hz => Hvb.out z hz))
    clear k0 k1 k2 k3 kf
    go_wp2_with fail
    ((refine hc.out.mono ?_); rintro r4 w4 ⟨x0, x1, x2, x3, X, rfl, hb4, hrd, hft⟩)
    obtain ⟨a2, p2, a3, p3, hcs, _⟩ := RdN.open hrd.now
    simp only [List.cons.injEq] at hcs
    obtain ⟨rfl, rfl, rfl, rfl, _⟩ := hcs
    have hR4 := hR.below hb4
    have ⟨_, k0, k1, k2, k3, kf⟩ := hR4
    have kf0 := kf 0
    have kf1 := kf 1
    have kf2 := kf 2
    have kf3 := kf 3
    obtain ⟨w6, hw6⟩ : ∃ w6, w6 = (((w4.setCell ⟨w1.heap.size, 0, none⟩ (U (Node.num X))).setCell ⟨w1.heap.size, 1, none⟩ (.string (Node.bytes X))).setCell ⟨w1.heap.size, 2, none⟩ (.slice a2 (Node.nums X).length p2)).setCell ⟨w1.heap.size, 3, none⟩ (.slice a3 (Node.kids X).length p3) := ⟨_, rfl⟩
    have hR6 : TB w6 w1.heap.size (U (Node.num X)) (.string (Node.bytes X)) (.slice a2 (Node.nums X).length p2) (.slice a3 (Node.kids X).length p3) := by rw [hw6]; exact (((hR4.set0 _).set1 _).set2 _).set3 _
    have hb6 : Below w.heap.size w w6 := by
      rw [hw6]
      exact ((((via hB3 hb4).setCell (p := ⟨w1.heap.size, 0, none⟩) hb1.size _).setCell (p := ⟨w1.heap.size, 1, none⟩) hb1.size _).setCell (p := ⟨w1.heap.size, 2, none⟩) hb1.size _).setCell (p := ⟨w1.heap.size, 3, none⟩) hb1.size _
    have hs6 : w6.heap.size = w4.heap.size := by rw [hw6]; simp [World.setCell]
    have hk6 : ∀ b, b ≠ w1.heap.size → w6.heap[b]? = w4.heap[b]? := fun b hb => by
      rw [hw6, Below.heap_setCell _ _ _ _ hb, Below.heap_setCell _ _ _ _ hb, Below.heap_setCell _ _ _ _ hb, Below.heap_setCell _ _ _ _ hb]
    have hrd6 := hrd w6 fun b hb hg => hk6 b fun e => hg (by have := hb3.size; show b < w3.heap.size; omega)
    have hs4 : Sch w6 (.slice sa n scap) S := (ownS_keep Hown.out fun g h1 h2 => (hk6 g (by omega)).trans (hb4.block g h2)).sch
    have hw6' := hw6.symm
    clear hw6 hs6 hk6 hrd hR4 hb4
    go_wp2_with fail
    clear k0 k1 k2 k3 kf kf0 kf1 kf2 kf3 hw6'
    have ⟨_, r0, r1, r2, r3, _⟩ := hR6
    (try simp only [Exit.inBlock, Exit.then])
    refine bodyPost_ret (by simp [results, Tryd.results10, go_sem, r0, r1, r2, r3]; try rfl) rfl ?_
    exact ⟨_, S, t, _, _, _, _, X, by first | rfl | rw [ht] | rw [ht'], hb6, hs4, HSr.out, by rw [← Hn.out]; exact htn, by rw [← Hn.out]; exact hS4, hrd6, hft⟩
end Go.Proofs.YtmcpanjpjnlleaaDoor


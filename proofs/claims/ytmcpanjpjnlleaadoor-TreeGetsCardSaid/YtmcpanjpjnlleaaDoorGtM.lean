/- A struct by numbers, as the laws make it. -/
import Derived.Test.YtmcpanjpjnlleaaDoorMadeT
import Derived.Test.YtmcpanjpjnlleaaDoorTrCheck
import Derived.Test.YtmcpanjpjnlleaaDoorGtD
import Derived.Test.YtmcpanjpjnlleaaDoorSpoilA
import Derived.Test.YtmcpanjpjnlleaaDoorSpoilB
import Derived.Test.YtmcpanjpjnlleaaDoorSpoilC
import Derived.Test.YtmcpanjpjnlleaaDoorSpoilD
set_option linter.unusedVariables false
set_option linter.unusedSimpArgs false
namespace Go.Proofs.YtmcpanjpjnlleaaDoor
section SMadeT2
open Go.RowKit

def MadeMP (s : Schema) (D : Nat) (t : Nat) (w : World) (e : Ending) (w' : World) : Prop :=
  ∃ x0 x1 x2 x3 X, e = .returned (.agg #[x0, x1, x2, x3]) ∧ Below w.heap.size w w' ∧ KW (fun b => b < w.heap.size) w' (fun W => RdS (D + 1) W [x0, x1, x2, x3] X) ∧ FitT s (D + 1) t X

set_option maxRecDepth 100000 in
set_option maxHeartbeats 8000000 in
theorem madeM_any (s : Schema) (hr : rightB s = true) (sv : Value) (D E : Nat) (hD : D ≤ 64) (hE : E = D + 1) (t : Nat) (ht : t < s.length) (lv : Value) (ls : List Int) (w : World) (hs : Sch w sv s) (hrow : Row w 1 lv ls.length (ls.map (Value.int .i64)))
    (hb : ∀ z ∈ ls, -9223372036854775808 ≤ z ∧ z ≤ 9223372036854775807) :
    Calls Tryd.prog 27 #[sv, .int .i64 t, lv, .int .i64 E] w (MadeMP s D t w) := by
  obtain ⟨w1, hw1, hb1, hz1, hR⟩ := TB.make w (.int .u64 0) (.string ⟨#[]⟩) (.slice none 0 0) (.slice none 0 0) 34
  have hcall := hid (madeT_any s hr sv D E hD hE t ht lv ls w1 (hs.below hb1 (Nat.le_refl _)) (hrow.below hb1 (Nat.le_refl _)) hb)
  clear hs hrow hb hE
  go_enter Tryd.func27, Tryd.ntmps27
  go_wp2_with fail
  ((refine hcall.out.mono ?_); rintro r5 w5 ⟨cs, X, lv5, ls5, rfl, hb5, hrd, hft, _⟩)
  obtain ⟨a2, p2, a3, p3, rfl, _⟩ := RdN.open hrd.now
  clear hcall hw1
  have Hrd := hid (And.intro hrd hft)
  clear hrd hft
  have hR5 := hR.below hb5
  have ⟨_, k0, k1, k2, k3, kf⟩ := hR5
  have kf0 := kf 0
  have kf1 := kf 1
  have kf2 := kf 2
  have kf3 := kf 3
  obtain ⟨w6, hw6⟩ : ∃ w6, w6 = (((w5.setCell ⟨w.heap.size, 0, none⟩ (U (Node.num X))).setCell ⟨w.heap.size, 1, none⟩ (.string (Node.bytes X))).setCell ⟨w.heap.size, 2, none⟩ (.slice a2 (Node.nums X).length p2)).setCell ⟨w.heap.size, 3, none⟩ (.slice a3 (Node.kids X).length p3) := ⟨_, rfl⟩
  have hR6 : TB w6 w.heap.size (U (Node.num X)) (.string (Node.bytes X)) (.slice a2 (Node.nums X).length p2) (.slice a3 (Node.kids X).length p3) := by rw [hw6]; exact (((hR5.set0 _).set1 _).set2 _).set3 _
  have hb6 : Below w.heap.size w w6 := by
    rw [hw6]
    exact ((((via hb1 hb5).setCell (p := ⟨w.heap.size, 0, none⟩) (Nat.le_refl _) _).setCell (p := ⟨w.heap.size, 1, none⟩) (Nat.le_refl _) _).setCell (p := ⟨w.heap.size, 2, none⟩) (Nat.le_refl _) _).setCell (p := ⟨w.heap.size, 3, none⟩) (Nat.le_refl _) _
  have hs6 : w6.heap.size = w5.heap.size := by rw [hw6]; simp [World.setCell]
  have hk6 : ∀ b, b ≠ w.heap.size → w6.heap[b]? = w5.heap[b]? := fun b hb => by
    rw [hw6, Below.heap_setCell _ _ _ _ hb, Below.heap_setCell _ _ _ _ hb, Below.heap_setCell _ _ _ _ hb, Below.heap_setCell _ _ _ _ hb]
  have hA := below_alloc w6 (.cells #[U (Node.num X), .string (Node.bytes X), .slice a2 (Node.nums X).length p2, .slice a3 (Node.kids X).length p3] 34)
  have hR7 := hR6.below hA
  have hK : KW (fun b => b < w.heap.size) w6 (fun W => RdS (D + 1) W [U (Node.num X), .string (Node.bytes X), .slice a2 (Node.nums X).length p2, .slice a3 (Node.kids X).length p3] X) :=
    Hrd.out.1.step (by omega) fun b hb hg => ⟨fun e => hg (by show b < w1.heap.size; omega), hk6 b fun e => hg (by show b < w1.heap.size; omega)⟩
  have Hfin := hid (And.intro (via hb6 hA) (And.intro (hK.below hA) Hrd.out.2))
  have hw6' := hw6.symm
  clear hw6 hb6 hs6 hk6 hA hK Hrd hR6 hb5 hb1
  go_wp2_with fail
  clear k0 k1 k2 k3 kf kf0 kf1 kf2 kf3
  clear hw6'
  generalize w6.alloc (.cells #[U (Node.num X), .string (Node.bytes X), .slice a2 (Node.nums X).length p2, .slice a3 (Node.kids X).length p3] 34) = w9 at *
  have ⟨_, r0, r1, r2, r3, _⟩ := hR7
  (try simp only [Exit.inBlock, Exit.then])
  refine bodyPost_ret (by simp [results, Tryd.results27, go_sem, r0, r1, r2, r3]; try rfl) rfl ?_
  obtain ⟨g1, g2, g3⟩ := Hfin.out
  exact ⟨_, _, _, _, X, rfl, g1, g2, g3⟩

theorem ownS_keep {w w' : World} {base : Nat} {v : Value} {s : Schema} (h : OwnS w base v s) (hk : ∀ g, base ≤ g → g < w.heap.size → w'.heap[g]? = w.heap[g]?) : OwnS w' base v s := by
  obtain ⟨vs, g1, g2⟩ := h
  exact ⟨vs, own_keep g1 fun g e => hk g (own_blk g1 e).2 (own_blk g1 e).1.lt, fun i l hl => by
    obtain ⟨u, hu, ho⟩ := g2 i l hl
    exact ⟨u, hu, own_keep ho fun g e => hk g (own_blk ho e).2 (own_blk ho e).1.lt⟩⟩
theorem row_cut {w : World} {a : Option Addr} {n cap k : Nat} {l : List Int} (h : Row w 1 (.slice a n cap) l.length (l.map (Value.int .i64))) (hn : n = l.length) (hk : k ≤ n) : Row w 1 (.slice a k cap) (l.take k).length ((l.take k).map (Value.int .i64)) := by
  obtain ⟨h1, h2, a', c', e, h4, h5, h6, h7⟩ := h
  simp only [Value.slice.injEq] at e
  obtain ⟨rfl, _, rfl⟩ := e
  have hl : (l.take k).length = k := by rw [List.length_take]; omega
  rw [hl]
  refine ⟨by simp; omega, by omega, a, cap, rfl, by omega, h5, h6, fun h0 => ?_⟩
  obtain ⟨b, off, e1, e2, e3⟩ := h7 (by omega)
  refine ⟨b, off, e1, e2, fun j hj => ?_⟩
  rw [e3 j (by omega), List.map_take, List.getElem?_take, if_pos (by omega)]

def SpecP (D : Nat) (w : World) (e : Ending) (w' : World) : Prop :=
  ∃ sv s t x0 x1 x2 x3 X, e = .returned (.tuple #[sv, .int .i64 (t : Nat), .agg #[x0, x1, x2, x3]]) ∧ Below w.heap.size w w' ∧ Sch w' sv s ∧ rightB s = true ∧ t < s.length ∧ s.length ≤ 4 ∧ RdS (D + 1) w' [x0, x1, x2, x3] X ∧ FitT s (D + 1) t X

set_option maxRecDepth 100000 in
set_option maxHeartbeats 8000000 in
theorem spec_any (D E : Nat) (hD : D ≤ 64) (hE : E = D + 1) (u v : Value) (T : Int) (tl vl : List Int) (w : World) (hu : Row w 1 u tl.length (tl.map (Value.int .i64))) (hv : Row w 1 v vl.length (vl.map (Value.int .i64)))
    (hub : ∀ z ∈ tl, -9223372036854775808 ≤ z ∧ z ≤ 9223372036854775807) (hvb : ∀ z ∈ vl, -9223372036854775808 ≤ z ∧ z ≤ 9223372036854775807) (hT : -9223372036854775808 ≤ T ∧ T ≤ 9223372036854775807) :
    Calls Tryd.prog 10 #[.agg #[u, v, .int .i64 T], .int .i64 E] w (SpecP D w) := by
  obtain ⟨au, cu, rfl, _⟩ := hu.open
  obtain ⟨av, cv, rfl, hcv, _, hvc⟩ := hv.open
  obtain ⟨w1, hw1, hb1, hlt1, hbox1⟩ := boxed w #[.slice au tl.length cu, .slice av vl.length cv, .int .i64 T] 24
  have q0 : w1.cell? ⟨w.heap.size, 0, none⟩ = some (.slice au tl.length cu) := hbox1 0
  have q1 : w1.cell? ⟨w.heap.size, 1, none⟩ = some (.slice av vl.length cv) := hbox1 1
  have q2 : w1.cell? ⟨w.heap.size, 2, none⟩ = some (.int .i64 T) := hbox1 2
  obtain ⟨w2, hw2, hb2, hz2, hR⟩ := TB.make w1 (.int .u64 0) (.string ⟨#[]⟩) (.slice none 0 0) (.slice none 0 0) 34
  replace q0 := (hb2.cell hlt1).trans q0
  replace q1 := (hb2.cell hlt1).trans q1
  replace q2 := (hb2.cell hlt1).trans q2
  have hb12 := via hb1 hb2
  have hmade := hid (made_any tl (.slice au tl.length cu) w2 (hu.below hb12 (Nat.le_refl _)) hub)
  obtain ⟨hSr, hS1, hS4, _⟩ := madeS_ok tl
  obtain ⟨n, hn⟩ : ∃ n, n = (madeS tl).length := ⟨_, rfl⟩
  have Hn := hid hn
  rw [← hn] at hS1 hS4
  have Hv := hid hv
  have Hvb := hid hvb
  have Hvc := hid hvc
  have HE := hid hE
  have HSr := hid hSr
  have hvm := hv.most
  unfold maxLen at hvm
  obtain ⟨m, hm⟩ : ∃ m, m = vl.length := ⟨_, rfl⟩
  have Hm := hid hm
  clear hu hv hub hvb hbox1 hn hvc hE hSr
  rw [← hm] at hw1 q1 hcv hvm ⊢
  clear hm
  go_enter Tryd.func10, Tryd.ntmps10
  go_wp2_with fail
  ((refine hmade.out.mono ?_); rintro r3 w3 ⟨sv, rfl, hb3, hown⟩)
  have hsch := hown.sch
  obtain ⟨sa, scap, rfl, _, _, hsm⟩ := hsch.shape
  rw [← Hn.out] at hsm hsch hown ⊢
  have Hown := hid hown
  have Hs := hid hsch
  clear hmade hown hw1 hw2 hsch
  generalize madeS tl = S at *
  have hlt2 : w.heap.size < w2.heap.size := Nat.lt_of_lt_of_le hlt1 hb2.size
  replace q0 := (hb3.cell hlt2).trans q0
  replace q1 := (hb3.cell hlt2).trans q1
  replace q2 := (hb3.cell hlt2).trans q2
  replace hR := hR.below hb3
  have hB3 := via hb12 hb3
  have hn1 : (1 : Int) ≤ (n : Int) := by omega
  have hnz : ((n : Int) == 0) = false := by rw [beq_eq_false_iff_ne]; omega
  have t1 := Int.tmod_lt_of_pos T (show (0 : Int) < n by omega)
  have t2 := Int.lt_tmod_of_pos T (show (0 : Int) < n by omega)
  obtain ⟨x, hx⟩ : ∃ x, Int.tmod T (n : Int) = x := ⟨_, rfl⟩
  rw [hx] at t1 t2
  have e0 := Int.emod_nonneg (x + (n : Int)) (show (n : Int) ≠ 0 by omega)
  have e1 := Int.emod_lt_of_pos (x + (n : Int)) (show (0 : Int) < n by omega)
  obtain ⟨t, ht⟩ : ∃ t : Nat, (x + (n : Int)) % (n : Int) = (t : Int) := ⟨((x + (n : Int)) % (n : Int)).toNat, by omega⟩
  have ht' : x % (n : Int) = (t : Int) := by rw [← ht]; simp
  have htn : t < n := by omega
  clear e0 e1
  have Hcall := hid fun (lv : Value) (ls : List Int) (h1 : Row w3 1 lv ls.length (ls.map (Value.int .i64))) (h2 : ∀ z ∈ ls, -9223372036854775808 ≤ z ∧ z ≤ 9223372036854775807) => madeM_any S HSr.out (.slice sa n scap) D E hD HE.out t (by rw [← Hn.out]; exact htn) lv ls w3 Hs.out h1 h2
  have ⟨_, k0, k1, k2, k3, kf⟩ := hR
  by_cases hm60 : 60 < m
  · have hm60' : (60 : Int) < (m : Int) := by omega
    have hcv60 : (60 : Int) ≤ (cv : Int) := by omega
    have hc := hid (Hcall.out (.slice av 60 cv) (vl.take 60) (row_cut (n := m) (by have h := Hv.out.below hB3 (Nat.le_refl _); rw [← Hm.out] at h ⊢; exact h) Hm.out (by omega)) (fun z hz => Hvb.out z (List.mem_of_mem_take hz)))
    clear k0 k1 k2 k3 kf
    go_wp2_with fail
    ((refine hc.out.mono ?_); rintro r4 w4 ⟨x0, x1, x2, x3, X, rfl, hb4, hrd, hft⟩)
    obtain ⟨a2, p2, a3, p3, hcs, _⟩ := RdN.open hrd.now
    simp only [List.cons.injEq] at hcs
    obtain ⟨rfl, rfl, rfl, rfl, _⟩ := hcs
    have hR4 := hR.below hb4
    have ⟨_, k0, k1, k2, k3, kf⟩ := hR4
    have kf0 := kf 0
    have kf1 := kf 1
    have kf2 := kf 2
    have kf3 := kf 3
    obtain ⟨w6, hw6⟩ : ∃ w6, w6 = (((w4.setCell ⟨w1.heap.size, 0, none⟩ (U (Node.num X))).setCell ⟨w1.heap.size, 1, none⟩ (.string (Node.bytes X))).setCell ⟨w1.heap.size, 2, none⟩ (.slice a2 (Node.nums X).length p2)).setCell ⟨w1.heap.size, 3, none⟩ (.slice a3 (Node.kids X).length p3) := ⟨_, rfl⟩
    have hR6 : TB w6 w1.heap.size (U (Node.num X)) (.string (Node.bytes X)) (.slice a2 (Node.nums X).length p2) (.slice a3 (Node.kids X).length p3) := by rw [hw6]; exact (((hR4.set0 _).set1 _).set2 _).set3 _
    have hb6 : Below w.heap.size w w6 := by
      rw [hw6]
      exact ((((via hB3 hb4).setCell (p := ⟨w1.heap.size, 0, none⟩) hb1.size _).setCell (p := ⟨w1.heap.size, 1, none⟩) hb1.size _).setCell (p := ⟨w1.heap.size, 2, none⟩) hb1.size _).setCell (p := ⟨w1.heap.size, 3, none⟩) hb1.size _
    have hs6 : w6.heap.size = w4.heap.size := by rw [hw6]; simp [World.setCell]
    have hk6 : ∀ b, b ≠ w1.heap.size → w6.heap[b]? = w4.heap[b]? := fun b hb => by
      rw [hw6, Below.heap_setCell _ _ _ _ hb, Below.heap_setCell _ _ _ _ hb, Below.heap_setCell _ _ _ _ hb, Below.heap_setCell _ _ _ _ hb]
    have hrd6 := hrd w6 fun b hb hg => hk6 b fun e => hg (by have := hb3.size; show b < w3.heap.size; omega)
    have hs4 : Sch w6 (.slice sa n scap) S := (ownS_keep Hown.out fun g h1 h2 => (hk6 g (by omega)).trans (hb4.block g h2)).sch
    have hw6' := hw6.symm
    clear hw6 hs6 hk6 hrd hR4 hb4
    go_wp2_with fail
    clear k0 k1 k2 k3 kf kf0 kf1 kf2 kf3 hw6'
    have ⟨_, r0, r1, r2, r3, _⟩ := hR6
    (try simp only [Exit.inBlock, Exit.then])
    refine bodyPost_ret (by simp [results, Tryd.results10, go_sem, r0, r1, r2, r3]; try rfl) rfl ?_
    exact ⟨_, S, t, _, _, _, _, X, by first | rfl | rw [ht] | rw [ht'], hb6, hs4, HSr.out, by rw [← Hn.out]; exact htn, by rw [← Hn.out]; exact hS4, hrd6, hft⟩
  · have hm60' : (m : Int) ≤ 60 := by omega
    have hc := hid (Hcall.out (.slice av m cv) vl (by have h := Hv.out.below hB3 (Nat.le_refl _); rw [← Hm.out] at h ⊢; exact h) (fun z hz => Hvb.out z hz))
    clear k0 k1 k2 k3 kf
    go_wp2_with fail
    ((refine hc.out.mono ?_); rintro r4 w4 ⟨x0, x1, x2, x3, X, rfl, hb4, hrd, hft⟩)
    obtain ⟨a2, p2, a3, p3, hcs, _⟩ := RdN.open hrd.now
    simp only [List.cons.injEq] at hcs
    obtain ⟨rfl, rfl, rfl, rfl, _⟩ := hcs
    have hR4 := hR.below hb4
    have ⟨_, k0, k1, k2, k3, kf⟩ := hR4
    have kf0 := kf 0
    have kf1 := kf 1
    have kf2 := kf 2
    have kf3 := kf 3
    obtain ⟨w6, hw6⟩ : ∃ w6, w6 = (((w4.setCell ⟨w1.heap.size, 0, none⟩ (U (Node.num X))).setCell ⟨w1.heap.size, 1, none⟩ (.string (Node.bytes X))).setCell ⟨w1.heap.size, 2, none⟩ (.slice a2 (Node.nums X).length p2)).setCell ⟨w1.heap.size, 3, none⟩ (.slice a3 (Node.kids X).length p3) := ⟨_, rfl⟩
    have hR6 : TB w6 w1.heap.size (U (Node.num X)) (.string (Node.bytes X)) (.slice a2 (Node.nums X).length p2) (.slice a3 (Node.kids X).length p3) := by rw [hw6]; exact (((hR4.set0 _).set1 _).set2 _).set3 _
    have hb6 : Below w.heap.size w w6 := by
      rw [hw6]
      exact ((((via hB3 hb4).setCell (p := ⟨w1.heap.size, 0, none⟩) hb1.size _).setCell (p := ⟨w1.heap.size, 1, none⟩) hb1.size _).setCell (p := ⟨w1.heap.size, 2, none⟩) hb1.size _).setCell (p := ⟨w1.heap.size, 3, none⟩) hb1.size _
    have hs6 : w6.heap.size = w4.heap.size := by rw [hw6]; simp [World.setCell]
    have hk6 : ∀ b, b ≠ w1.heap.size → w6.heap[b]? = w4.heap[b]? := fun b hb => by
      rw [hw6, Below.heap_setCell _ _ _ _ hb, Below.heap_setCell _ _ _ _ hb, Below.heap_setCell _ _ _ _ hb, Below.heap_setCell _ _ _ _ hb]
    have hrd6 := hrd w6 fun b hb hg => hk6 b fun e => hg (by have := hb3.size; show b < w3.heap.size; omega)
    have hs4 : Sch w6 (.slice sa n scap) S := (ownS_keep Hown.out fun g h1 h2 => (hk6 g (by omega)).trans (hb4.block g h2)).sch
    have hw6' := hw6.symm
    clear hw6 hs6 hk6 hrd hR4 hb4
    go_wp2_with fail
    clear k0 k1 k2 k3 kf kf0 kf1 kf2 kf3 hw6'
    have ⟨_, r0, r1, r2, r3, _⟩ := hR6
    (try simp only [Exit.inBlock, Exit.then])
    refine bodyPost_ret (by simp [results, Tryd.results10, go_sem, r0, r1, r2, r3]; try rfl) rfl ?_
    exact ⟨_, S, t, _, _, _, _, X, by first | rfl | rw [ht] | rw [ht'], hb6, hs4, HSr.out, by rw [← Hn.out]; exact htn, by rw [← Hn.out]; exact hS4, hrd6, hft⟩
end SMadeT2

section SEx
open Go.RowKit

theorem row_new (w : World) (cs : Array Value) (T : TypeId) (sz n : Nat) (h : cs.size = n * sz) (hm : n ≤ maxLen) : Row (w.alloc (.cells cs T)) sz (.slice (some ⟨w.heap.size, 0, none⟩) n n) n cs.toList := by
  refine ⟨by simp [h], hm, some ⟨w.heap.size, 0, none⟩, n, rfl, Nat.le_refl _, hm, (fun h => by cases h), fun _ => ⟨w.heap.size, 0, rfl, by simp, fun j hj => ?_⟩⟩
  rw [Nat.zero_add, cell_of_row _ _ _ _ _ _ (heap_alloc_new w _)]
  simp

def S2 : Schema := [[(1, 0), (3, 0)]]
theorem S2_right : rightB S2 = true := rfl
theorem sch_S2 (w : World) : Sch ((w.alloc (.cells #[.int .i64 1, .int .i64 0, .int .i64 3, .int .i64 0] 55)).alloc (.cells #[.slice (some ⟨w.heap.size, 0, none⟩) 2 2] 56)) (.slice (some ⟨w.heap.size + 1, 0, none⟩) 1 1) S2 := by
  have h1 := row_new w #[.int .i64 1, .int .i64 0, .int .i64 3, .int .i64 0] 55 2 2 rfl (by simp [maxLen])
  have h2 := row_new (w.alloc (.cells #[.int .i64 1, .int .i64 0, .int .i64 3, .int .i64 0] 55)) #[.slice (some ⟨w.heap.size, 0, none⟩) 2 2] 56 1 1 rfl (by simp [maxLen])
  have e : (w.alloc (.cells #[.int .i64 1, .int .i64 0, .int .i64 3, .int .i64 0] 55)).heap.size = w.heap.size + 1 := by simp
  rw [e] at h2
  refine ⟨_, h2, fun i l hl => ?_⟩
  match i, hl with
  | 0, hl =>
    obtain rfl := Option.some.inj hl
    exact ⟨_, rfl, h1.below (below_alloc _ _) (Nat.le_refl _)⟩
  | i + 1, hl => simp [S2] at hl

/-- The example's struct. -/
def T2 : St 1 := (⟨0#64, ⟨#[]⟩, [], [⟨7#64, ⟨#[]⟩, [], []⟩, ⟨0#64, ⟨#[]⟩, [5#64, 6#64], []⟩]⟩ : Node (Node (St 0)))
theorem T2_check : checkC S2 1 0 T2 = 0 := by
  rw [checkC, if_pos ⟨S2_right, by decide, by decide⟩]
  rfl
theorem rd_T2 (w : World) : RdS 1 ((w.alloc (.cells #[U 5#64, U 6#64] 30)).alloc (.cells #[U 7#64, .string ⟨#[]⟩, .slice none 0 0, .slice none 0 0, U 0#64, .string ⟨#[]⟩, .slice (some ⟨w.heap.size, 0, none⟩) 2 2, .slice none 0 0] 34))
    [U 0#64, .string ⟨#[]⟩, .slice none 0 0, .slice (some ⟨w.heap.size + 1, 0, none⟩) 2 2] T2 := by
  have h1 := row_new w #[U 5#64, U 6#64] 30 1 2 rfl (by simp [maxLen])
  have h2 := row_new (w.alloc (.cells #[U 5#64, U 6#64] 30)) #[U 7#64, .string ⟨#[]⟩, .slice none 0 0, .slice none 0 0, U 0#64, .string ⟨#[]⟩, .slice (some ⟨w.heap.size, 0, none⟩) 2 2, .slice none 0 0] 34 4 2 rfl (by simp [maxLen])
  have e : (w.alloc (.cells #[U 5#64, U 6#64] 30)).heap.size = w.heap.size + 1 := by simp
  rw [e] at h2
  have hz : ∀ W : World, Row W 1 (.slice none 0 0) 0 [] := fun W => Row.nil W 1
  refine RdN.mk' (t := (T2 : Node (Node (St 0)))) ⟨by show (⟨#[]⟩ : ByteArray).size ≤ 1000; decide, by show 0 ≤ 1000; omega, by show 2 ≤ 1000; omega⟩ (hz _) ⟨_, h2, fun i k hk => ?_⟩
  match i, hk with
  | 0, hk =>
    obtain rfl := Option.some.inj hk
    exact RdN.mk' (t := ⟨7#64, ⟨#[]⟩, [], []⟩) ⟨by show (⟨#[]⟩ : ByteArray).size ≤ 1000; decide, by simp, by simp⟩ (hz _) (Kids.nil _ _)
  | 1, hk =>
    obtain rfl := Option.some.inj hk
    exact RdN.mk' (t := ⟨0#64, ⟨#[]⟩, [5#64, 6#64], []⟩) ⟨by show (⟨#[]⟩ : ByteArray).size ≤ 1000; decide, by simp, by simp⟩ (h1.below (below_alloc _ _) (Nat.le_refl _)) (Kids.nil _ _)
  | i + 2, hk => simp [T2] at hk
end SEx

section SAw6
open Go.RowKit

theorem T2_get : getC S2 1 0 T2 [1, 0] = (5#64, 0) := by rw [getC, if_pos T2_check]; rfl

set_option maxRecDepth 100000 in
set_option maxHeartbeats 4000000 in
theorem awake06 (w : World) (hl : LaidE w) : Calls Tryd.prog 9 #[] w fun r w' => r = .returned (.bool true) ∧ Below w.heap.size w w' := by
  obtain ⟨w2, hw2⟩ : ∃ w2, w2 = (w.alloc (.cells #[.int .i64 1, .int .i64 0, .int .i64 3, .int .i64 0] 55)).alloc (.cells #[.slice (some ⟨w.heap.size, 0, none⟩) 2 2] 56) := ⟨_, rfl⟩
  have e2 : w2.heap.size = w.heap.size + 1 + 1 := by rw [hw2]; simp
  have hb2 : Below w.heap.size w w2 := by rw [hw2]; exact (below_alloc _ _).alloc (by simp) _
  have hS2 : Sch w2 (.slice (some ⟨w.heap.size + 1, 0, none⟩) 1 1) S2 := by rw [hw2]; exact sch_S2 w
  obtain ⟨w4, hw4⟩ : ∃ w4, w4 = (w2.alloc (.cells #[U 5#64, U 6#64] 30)).alloc (.cells #[U 7#64, .string ⟨#[]⟩, .slice none 0 0, .slice none 0 0, U 0#64, .string ⟨#[]⟩, .slice (some ⟨w2.heap.size, 0, none⟩) 2 2, .slice none 0 0] 34) := ⟨_, rfl⟩
  have e4 : w4.heap.size = w2.heap.size + 1 + 1 := by rw [hw4]; simp
  have hb4 : Below w2.heap.size w2 w4 := by rw [hw4]; exact (below_alloc _ _).alloc (by simp) _
  have hR4 : RdS 1 w4 [U 0#64, .string ⟨#[]⟩, .slice none 0 0, .slice (some ⟨w2.heap.size + 1, 0, none⟩) 2 2] T2 := by rw [hw4]; exact rd_T2 w2
  have hb5 := below_alloc w4 (.cells #[.int .i64 1, .int .i64 0] 3)
  have hp5 : Ints (w4.alloc (.cells #[.int .i64 1, .int .i64 0] 3)) (.slice (some ⟨w4.heap.size, 0, none⟩) 2 2) [1, 0] := row_new w4 #[.int .i64 1, .int .i64 0] 3 1 2 rfl (by simp [maxLen])
  have hB := (via hb2 (via hb4 hb5))
  have hg := hid (tget_any S2 _ 1 0 T2 _ [1, 0] _ _ ((hS2.below hb4 (Nat.le_refl _)).below hb5 (Nat.le_refl _)) (hR4.below hb5 (Nat.le_refl _)) hp5)
  clear hS2 hR4 hp5 hb2 hb4 hb5
  rw [T2_get, e4, e2, hw4, e2, hw2] at hg
  rw [hw4, e2, hw2] at hB
  clear hw4 hw2 e4 e2 w4 w2
  go_enter Tryd.func9, Tryd.ntmps9
  go_wp2_with fail
  ((refine hg.out.mono ?_); rintro r1 w2 ⟨rfl, hb2⟩)
  have hB2 := hB.trans (hb2.mono hB.size)
  have hl2 := LaidE.below hl hB2 (LaidE.pos hl)
  have htop := top_err 0 w2 hl2
  rw [show ErrV 0 = .nilIface from rfl] at htop ⊢
  clear hg hb2 hB hl
  go_wp2_with fail
  ((refine htop.mono ?_); rintro r1 w3 ⟨rfl, hb3⟩)
  have hB3 := via hB2 hb3
  clear htop hB2 hb3 hl2
  go_wp2_with fail
  go_returns
  exact ⟨rfl, hB3⟩
end SAw6

section SSpoilt
open Go.RowKit

theorem spoilt_any (s : Schema) (hr : rightB s = true) (d : Nat) (t : Int) (X : St (d + 1)) (cs : List Value) (w0 w : World) (hB0 : Below w0.heap.size w0 w) (h : RdS (d + 1) w0 cs X) (hf : FitT s (d + 1) t X) (how at_ n : Int) (str : ByteArray)
    (hat : -9223372036854775808 ≤ at_ ∧ at_ ≤ 9223372036854775807) (down : Bool) :
    Calls Tryd.prog 11 #[.agg cs.toArray, turnV how at_ n str down] w (SpP d X w0 w) := by
  have flat : ∀ (d : Nat) (t : Int) (X : St (d + 1)) (cs : List Value) (w : World), Below w0.heap.size w0 w → RdS (d + 1) w0 cs X → FitT s (d + 1) t X →
      Calls Tryd.prog 11 #[.agg cs.toArray, turnV how at_ n str false] w (SpP d X w0 w) := fun d t X cs w hB h hf => by
    by_cases hst : (50 : Int) < (str.size : Int)
    · exact spoil_A s hr d t X cs w0 w hB h hf how at_ n str hst hat
    · exact spoil_B s hr d t X cs w0 w hB h hf how at_ n str (by omega) hat
  cases down with
  | false => exact flat d t X cs w hB0 h hf
  | true =>
    by_cases hst : (50 : Int) < (str.size : Int)
    · exact spoil_C s hr d t X cs w0 w hB0 h hf how at_ n str hst hat flat
    · exact spoil_D s hr d t X cs w0 w hB0 h hf how at_ n str (by omega) hat flat

/-- What was read is read in every later world. -/
theorem SpP.later {d : Nat} {X : St (d + 1)} {w0 w : World} {r : Ending} {w' : World} (h : SpP d X w0 w r w') (hB0 : Below w0.heap.size w0 w) :
    ∃ a2 p2 a3 p3 X', r = .returned (.agg #[U (Node.num X'), .string (Node.bytes X'), .slice a2 (Node.nums X').length p2, .slice a3 (Node.kids X').length p3]) ∧ (Node.bytes X' = Node.bytes X ∧ Node.nums X' = Node.nums X) ∧
      (∀ W, Below w'.heap.size w' W → RdS (d + 1) W [U (Node.num X'), .string (Node.bytes X'), .slice a2 (Node.nums X').length p2, .slice a3 (Node.kids X').length p3] X') ∧ Below w.heap.size w w' := by
  obtain ⟨y0, y1, y2, y3, X', rfl, hn, hr, hb⟩ := h
  have h1 := hr w' (hB0.trans (hb.mono hB0.size)) (fun _ _ _ => rfl)
  obtain ⟨a2, p2, a3, p3, e, _⟩ := RdN.open h1
  simp only [List.cons.injEq, and_true] at e
  obtain ⟨rfl, rfl, rfl, rfl⟩ := e
  exact ⟨a2, p2, a3, p3, X', rfl, hn, fun W hW => h1.below hW (Nat.le_refl _), hb⟩
end SSpoilt

end Go.Proofs.YtmcpanjpjnlleaaDoor


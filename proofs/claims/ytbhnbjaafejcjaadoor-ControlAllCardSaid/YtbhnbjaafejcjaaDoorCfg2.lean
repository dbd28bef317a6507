/- The document's arena of such a config. -/
import Derived.Test.YtbhnbjaafejcjaaDoorCfg
import Derived.Test.YtbhnbjaafejcjaaDoorOwn
set_option linter.unusedVariables false
namespace Go.Proofs.YtbhnbjaafejcjaaDoor
open Go.RowKit

theorem own_set2 {w : World} {base g n cap sz : Nat} {e : TypeId} {xs : List Value} (h : w.ownsRow base e sz (.slice (some ⟨g, 0, none⟩) n cap) n xs) (o : Nat) (u : Value) :
    (w.setCell ⟨g, o, none⟩ u).ownsRow base e sz (.slice (some ⟨g, 0, none⟩) n cap) n (xs.set o u) := by
  rcases h.2 with ⟨h', _⟩ | ⟨g', cap', cur, h', hb, hg, hn, hm, hs, ht⟩
  · simp at h'
  · simp only [Value.slice.injEq, Option.some.injEq, Addr.mk.injEq, and_true, true_and] at h'
    obtain ⟨rfl, rfl⟩ := h'
    refine ⟨by rw [List.length_set]; exact h.1, .inr ⟨g, cap, cur.setIfInBounds o u, rfl, hb, ?_, hn, hm, by simp [hs], ?_⟩⟩
    · unfold World.setCell
      simp [Array.getElem?_modify, hg]
    · rw [Array.toList_setIfInBounds, List.take_set, ht]

theorem boxed (w : World) (cs : Array Value) (T : TypeId) : ∃ w1, w.alloc (.cells cs T) = w1 ∧ Below w.heap.size w w1 ∧ w.heap.size < w1.heap.size ∧ ∀ j, w1.cell? ⟨w.heap.size, j, none⟩ = cs[j]? := by
  refine ⟨_, rfl, (Below.refl _ w).alloc (Nat.le_refl _) _, by simp, fun j => ?_⟩
  have : (w.alloc (.cells cs T)).heap[w.heap.size]? = some (.cells cs T) := by show (w.heap.push _)[w.heap.size]? = _; simp
  simp only [World.cell?, this]
  rfl

set_option maxHeartbeats 4000000 in
theorem rparts_any (T : Int) (w : World) : Calls Tryd.prog 84 #[cfgV T] w fun r w' => ∃ b, r = .returned (.slice (some ⟨b, 0, none⟩) 9 9) ∧ Below w.heap.size w w' ∧ b < w'.heap.size ∧ ∀ j : Nat, j < 9 → ∃ z, w'.cell? ⟨b, j, none⟩ = some (.int .i64 z) := by
  unfold cfgV
  go_enter Tryd.func84, Tryd.ntmps84
  go_wp2_with fail
  go_ret
  refine ⟨_, rfl, ?_, by simp, ?_⟩
  · go_grown
  · intro j hj
    match j, hj with
    | 0, _ => exact ⟨T, by simp [go_sem]⟩
    | 1, _ => exact ⟨4, by simp [go_sem]⟩
    | 2, _ => exact ⟨1, by simp [go_sem]⟩
    | 3, _ => exact ⟨1, by simp [go_sem]⟩
    | 4, _ => exact ⟨1, by simp [go_sem]⟩
    | 5, _ => exact ⟨4, by simp [go_sem]⟩
    | 6, _ => exact ⟨1, by simp [go_sem]⟩
    | 7, _ => exact ⟨6, by simp [go_sem]⟩
    | 8, _ => exact ⟨0, by simp [go_sem]⟩

/-- A box that holds such a config. -/
structure CBox (w : World) (B : Nat) (T : Int) : Prop where
  lt : B < w.heap.size
  c0 : w.cell? ⟨B, 0, none⟩ = some (.int .i64 T)
  c1 : w.cell? ⟨B, 1, none⟩ = some (.int .i64 4)
  c2 : w.cell? ⟨B, 2, none⟩ = some (.int .i64 1)
  c3 : w.cell? ⟨B, 3, none⟩ = some (.int .i64 1)
  c4 : w.cell? ⟨B, 4, none⟩ = some (.int .i64 4)
  c5 : w.cell? ⟨B, 5, none⟩ = some (.int .i64 1)
  c6 : w.cell? ⟨B, 6, none⟩ = some (.int .i64 6)
  c7 : w.cell? ⟨B, 7, none⟩ = some (.int .i64 0)
  c8 : w.cell? ⟨B, 8, none⟩ = some (.int .i64 1)
theorem CBox.below {w w' : World} {B : Nat} {T : Int} (h : CBox w B T) (hb : Below w.heap.size w w') : CBox w' B T :=
  ⟨Nat.lt_of_lt_of_le h.lt hb.size, (hb.cell h.lt).trans h.c0, (hb.cell h.lt).trans h.c1, (hb.cell h.lt).trans h.c2, (hb.cell h.lt).trans h.c3, (hb.cell h.lt).trans h.c4, (hb.cell h.lt).trans h.c5, (hb.cell h.lt).trans h.c6, (hb.cell h.lt).trans h.c7, (hb.cell h.lt).trans h.c8⟩
theorem CBox.make (w : World) (T : Int) : ∃ w1, w.alloc (.cells #[.int .i64 T, .int .i64 4, .int .i64 1, .int .i64 1, .int .i64 4, .int .i64 1, .int .i64 6, .int .i64 0, .int .i64 1] 66) = w1 ∧ Below w.heap.size w w1 ∧ CBox w1 w.heap.size T := by
  obtain ⟨w1, hw1, hb1, hlt1, hbox⟩ := boxed w #[.int .i64 T, .int .i64 4, .int .i64 1, .int .i64 1, .int .i64 4, .int .i64 1, .int .i64 6, .int .i64 0, .int .i64 1] 66
  exact ⟨w1, hw1, hb1, hlt1, hbox 0, hbox 1, hbox 2, hbox 3, hbox 4, hbox 5, hbox 6, hbox 7, hbox 8⟩

set_option maxRecDepth 100000 in
set_option maxHeartbeats 4000000 in
theorem rpack4_any (T : Int) (w : World) (h1 : 1 ≤ T) (h8 : T ≤ 8) : Calls Tryd.prog 64 #[cfgV T] w fun r w' => ∃ x : BitVec 64, r = .returned (U x) ∧ Below w.heap.size w w' := by
  have hR := fun W => rright_any T W h1 h8
  have hP := fun W => rparts_any T W
  unfold cfgV at hR hP ⊢
  obtain ⟨w1, hw1, hb1, hbox⟩ := CBox.make w T
  have ⟨_, k0, k1, k2, k3, k4, k5, k6, k7, k8⟩ := hbox
  go_enter Tryd.func64, Tryd.ntmps64
  go_wp2_with fail
  clear k0 k1 k2 k3 k4 k5 k6 k7 k8
  ((refine (hR _).mono ?_); rintro r1 w2 ⟨rfl, h2⟩)
  replace hbox := hbox.below h2
  replace hb1 := hb1.trans (h2.mono hb1.size)
  have ⟨_, k0, k1, k2, k3, k4, k5, k6, k7, k8⟩ := hbox
  clear h2 hw1
  go_wp2_with fail
  clear k0 k1 k2 k3 k4 k5 k6 k7 k8
  ((refine (hP _).mono ?_); rintro r1 w3 ⟨b, rfl, h2, hblt, hcell⟩)
  replace hb1 := hb1.trans (h2.mono hb1.size)
  have Hcell := hid hcell
  clear h2 hbox hR hP hcell
  go_wp2_with fail
  rw [show (.int .u64 0 : Value) = U 0#64 from rfl]
  go_loopw [5, 6] (fun x i wr => wr = w3 ∧ ∃ (y : BitVec 64) (k : Nat), x = U y ∧ i = .int .i64 ((k : Int) - 1) ∧ k ≤ 9) (fun _ i _ => (intOf i + 1).toNat)
  case atStart => exact ⟨rfl, 0#64, 9, rfl, rfl, by omega⟩
  case round =>
    obtain ⟨rfl, y, k, rfl, rfl, hk⟩ := hrel
    by_cases hk0 : k = 0
    · subst hk0
      go_wp2_with fail
      go_ret
      exact ⟨_, rfl, hb1⟩
    · obtain ⟨j, rfl⟩ : ∃ j, k = j + 1 := ⟨k - 1, by omega⟩
      obtain ⟨z, hz⟩ := Hcell.out j (by omega)
      rw [show ((j + 1 : Nat) : Int) - 1 = (j : Int) by omega]
      go_wp2_with fail
      go_roundw
      case rel => exact ⟨trivial, _, j, rfl, rfl, by omega⟩
      case measure => simp [intOf] <;> omega

theorem infoU64 : (Tryd.prog.info? 41).map (fun i => (i.zero, i.size, i.bytes)) = some (some (.int .u64 0), 1, 8) := by kernel_rfl

/-- The box of an arena whose words lie in block g. -/
structure ABox (w : World) (B g n : Nat) : Prop where
  lt : B < w.heap.size
  c0 : w.cell? ⟨B, 0, none⟩ = some (.slice (some ⟨g, 0, none⟩) n n)
  c1 : ∃ s, w.cell? ⟨B, 1, none⟩ = some (.int .i64 s)
  c2 : ∃ s, w.cell? ⟨B, 2, none⟩ = some s
  c3 : ∃ s, w.cell? ⟨B, 3, none⟩ = some s
  c4 : ∃ s, w.cell? ⟨B, 4, none⟩ = some s
  c5 : ∃ s, w.cell? ⟨B, 5, none⟩ = some s
  fz : ∀ j, w.frozen? ⟨B, j, none⟩ = false
theorem ABox.of_block {w w' : World} {B g n : Nat} (h : ABox w B g n) (hb : w'.heap[B]? = w.heap[B]?) (hs : B < w'.heap.size) : ABox w' B g n := by
  have e : ∀ j, w'.cell? ⟨B, j, none⟩ = w.cell? ⟨B, j, none⟩ := fun j => World.cell?_of_block (a := ⟨B, j, none⟩) hb
  have e2 : ∀ j, w'.frozen? ⟨B, j, none⟩ = w.frozen? ⟨B, j, none⟩ := fun j => World.frozen?_of_block (a := ⟨B, j, none⟩) hb
  exact ⟨hs, by rw [e]; exact h.c0, by rw [e]; exact h.c1, by rw [e]; exact h.c2, by rw [e]; exact h.c3, by rw [e]; exact h.c4, by rw [e]; exact h.c5, fun j => by rw [e2]; exact h.fz j⟩
theorem ABox.below {w w' : World} {B g n : Nat} (h : ABox w B g n) (hb : Below w.heap.size w w') : ABox w' B g n := h.of_block (hb.block B h.lt) (Nat.lt_of_lt_of_le h.lt hb.size)
theorem ABox.far {w : World} {B g n b o : Nat} (h : ABox w B g n) (hb : b ≠ B) (u : Value) : ABox (w.setCell ⟨b, o, none⟩ u) B g n := h.of_block (Below.heap_setCell _ _ _ _ (fun e => hb e.symm)) (by simpa [World.setCell] using h.lt)
theorem ABox.near {w : World} {B g n j : Nat} (h : ABox w B g n) (hj : 1 ≤ j) (u : Value) (hu : j = 1 → ∃ s, u = .int .i64 s) : ABox (w.setCell ⟨B, j, none⟩ u) B g n := by
  have lt' : B < (w.setCell ⟨B, j, none⟩ u).heap.size := by simpa [World.setCell] using h.lt
  have key : ∀ i, i ≠ j → (w.setCell ⟨B, j, none⟩ u).cell? ⟨B, i, none⟩ = w.cell? ⟨B, i, none⟩ := fun i hi => by simp [go_sem, hi]
  have any : ∀ i, (∃ s, w.cell? ⟨B, i, none⟩ = some s) → ∃ s, (w.setCell ⟨B, j, none⟩ u).cell? ⟨B, i, none⟩ = some s := fun i ⟨s, hs⟩ => by
    by_cases hi : i = j
    · subst hi; exact ⟨u, World.cell?_setCell_same w _ _ hs⟩
    · exact ⟨s, by rw [key i hi]; exact hs⟩
  refine ⟨lt', by rw [key 0 (by omega)]; exact h.c0, ?_, any 2 h.c2, any 3 h.c3, any 4 h.c4, any 5 h.c5, fun i => by rw [World.frozen?_setCell]; exact h.fz i⟩
  by_cases hi : j = 1
  · subst hi
    obtain ⟨s, rfl⟩ := hu rfl
    obtain ⟨s0, hs⟩ := h.c1
    exact ⟨s, World.cell?_setCell_same w _ _ hs⟩
  · rw [key 1 (fun e => hi e.symm)]; exact h.c1
theorem CBox.far {w : World} {B b o : Nat} {T : Int} (h : CBox w B T) (hb : b ≠ B) (u : Value) : CBox (w.setCell ⟨b, o, none⟩ u) B T := by
  have e : ∀ j, (w.setCell ⟨b, o, none⟩ u).cell? ⟨B, j, none⟩ = w.cell? ⟨B, j, none⟩ := fun j => World.cell?_of_block (a := ⟨B, j, none⟩) (Below.heap_setCell _ _ _ _ (fun e => hb e.symm))
  exact ⟨by simpa [World.setCell] using h.lt, by rw [e]; exact h.c0, by rw [e]; exact h.c1, by rw [e]; exact h.c2, by rw [e]; exact h.c3, by rw [e]; exact h.c4, by rw [e]; exact h.c5, by rw [e]; exact h.c6, by rw [e]; exact h.c7, by rw [e]; exact h.c8⟩

theorem made_zero (n : Nat) : (madeCells (Value.int .u64 0).cells (n * 1)).toList = (List.replicate n 0#64).map U := by
  rw [madeCells, Nat.mul_one, Array.toList_map, Array.toList_range, List.map_replicate]
  apply List.ext_getElem (by simp)
  intro i h1 h2
  simp [Value.cells, Nat.mod_one]
  rfl

set_option maxHeartbeats 4000000 in
theorem rnew_any (n : Nat) (w : World) (hn : n ≤ 1000) : Calls Tryd.prog 62 #[.int .i64 n] w fun r w' => ∃ B g, r = .returned (.pointer (some ⟨B, 0, none⟩)) ∧ Below w.heap.size w w' ∧ w.heap.size ≤ B ∧ w.heap.size ≤ g ∧ g ≠ B ∧ ABox w' B g n ∧ ∃ ys : List (BitVec 64), w'.ownsRow w.heap.size 41 1 (.slice (some ⟨g, 0, none⟩) n n) n (ys.map U) := by
  obtain ⟨iU, hiU, hzU, hsU, hbU⟩ := info_parts infoU64
  go_enter Tryd.func62, Tryd.ntmps62
  go_wp2_with ((refine wpList_make_full _ rfl (.tmp 3) (.tmp 3) 36 rfl w.heap.size 41 iU _ 1 Tryd.underlying36 hiU hzU hsU .i64 .i64 (n : Int) (n : Int) n rfl rfl rfl rfl (by rw [hbU]; omega) (by unfold maxLen; omega) (Nat.le_refl _) ?_); intro w5 ho5 hg5)
  go_ret
  have hB : Below w.heap.size w w5 := (Below.refl _ w).grown hg5 (Nat.le_refl _) (fun q hq => by cases hq)
  have hlt := (own_blk ho5 (g := w.heap.size) rfl).1.lt
  rw [made_zero] at ho5
  refine ⟨w5.heap.size, w.heap.size, rfl, hB.alloc hB.size _, hB.size, Nat.le_refl _, by omega, ⟨by simp, by simp [go_sem], ⟨0, by simp [go_sem]⟩, ⟨.int .i64 0, by simp [go_sem]⟩, ⟨.int .i64 0, by simp [go_sem]⟩, ⟨.int .u64 0, by simp [go_sem]⟩, ⟨.bool false, by simp [go_sem]⟩, fun j => by simp [go_sem]⟩, List.replicate n 0#64, own_beneath ho5 ((Below.refl _ w5).alloc (Nat.le_refl _) _)⟩

/-- While the arena is made. -/
structure MK (w W : World) (B0 B g n : Nat) (T : Int) : Prop where
  bl : Below w.heap.size w W
  cb : CBox W B0 T
  ab : ABox W B g n
  row : ∃ ys : List (BitVec 64), W.ownsRow w.heap.size 41 1 (.slice (some ⟨g, 0, none⟩) n n) n (ys.map U)
  ne1 : g ≠ B
  ne2 : g ≠ B0
  ne3 : B ≠ B0
  leB : w.heap.size ≤ B
theorem MK.below {w W W' : World} {B0 B g n : Nat} {T : Int} (h : MK w W B0 B g n T) (hb : Below W.heap.size W W') : MK w W' B0 B g n T :=
  ⟨via h.bl hb, h.cb.below hb, h.ab.below hb, by obtain ⟨ys, hy⟩ := h.row; exact ⟨ys, own_beneath hy hb⟩, h.ne1, h.ne2, h.ne3, h.leB⟩
theorem MK.all {w W : World} {B0 B g n : Nat} {T : Int} (h : MK w W B0 B g n T) : W.cell? ⟨B0, 0, none⟩ = some (.int .i64 T) ∧ W.cell? ⟨B0, 1, none⟩ = some (.int .i64 4) ∧ W.cell? ⟨B0, 2, none⟩ = some (.int .i64 1) ∧ W.cell? ⟨B0, 3, none⟩ = some (.int .i64 1) ∧ W.cell? ⟨B0, 4, none⟩ = some (.int .i64 4) ∧ W.cell? ⟨B0, 5, none⟩ = some (.int .i64 1) ∧ W.cell? ⟨B0, 6, none⟩ = some (.int .i64 6) ∧ W.cell? ⟨B0, 7, none⟩ = some (.int .i64 0) ∧ W.cell? ⟨B0, 8, none⟩ = some (.int .i64 1) ∧ W.cell? ⟨B, 0, none⟩ = some (.slice (some ⟨g, 0, none⟩) n n) ∧ MK w W B0 B g n T :=
  ⟨h.cb.c0, h.cb.c1, h.cb.c2, h.cb.c3, h.cb.c4, h.cb.c5, h.cb.c6, h.cb.c7, h.cb.c8, h.ab.c0, h⟩
theorem MK.last {w W : World} {B0 B g n : Nat} {T : Int} (h : W.cell? ⟨B0, 0, none⟩ = some (.int .i64 T) ∧ W.cell? ⟨B0, 1, none⟩ = some (.int .i64 4) ∧ W.cell? ⟨B0, 2, none⟩ = some (.int .i64 1) ∧ W.cell? ⟨B0, 3, none⟩ = some (.int .i64 1) ∧ W.cell? ⟨B0, 4, none⟩ = some (.int .i64 4) ∧ W.cell? ⟨B0, 5, none⟩ = some (.int .i64 1) ∧ W.cell? ⟨B0, 6, none⟩ = some (.int .i64 6) ∧ W.cell? ⟨B0, 7, none⟩ = some (.int .i64 0) ∧ W.cell? ⟨B0, 8, none⟩ = some (.int .i64 1) ∧ W.cell? ⟨B, 0, none⟩ = some (.slice (some ⟨g, 0, none⟩) n n) ∧ MK w W B0 B g n T) : MK w W B0 B g n T := h.2.2.2.2.2.2.2.2.2.2
theorem MK.word {w W : World} {B0 B g n : Nat} {T : Int} (h : MK w W B0 B g n T) {o : Nat} (ho : o < n) : ∃ y : BitVec 64, W.cell? ⟨g, o, none⟩ = some (U y) ∧ W.frozen? ⟨g, o, none⟩ = false ∧ ∀ v : BitVec 64, MK w (W.setCell ⟨g, o, none⟩ (U v)) B0 B g n T := by
  obtain ⟨ys, hy⟩ := h.row
  have hl : ys.length = n := by have := hy.1; simpa using this
  have hc := hy.cellAt o (by omega)
  rw [List.getElem?_map, List.getElem?_eq_getElem (by omega)] at hc
  refine ⟨ys[o], hc, hy.frozenAt o, fun v => ⟨h.bl.setCell (own_blk hy (g := g) rfl).2 _, h.cb.far h.ne2 _, h.ab.far h.ne1 _, ⟨ys.set o v, ?_⟩, h.ne1, h.ne2, h.ne3, h.leB⟩⟩
  have := own_set2 hy o (U v)
  rw [← List.map_set] at this
  exact this
theorem MK.near {w W : World} {B0 B g n j : Nat} {T : Int} (h : MK w W B0 B g n T) (hj : 1 ≤ j) (u : Value) (hu : j = 1 → ∃ s, u = .int .i64 s) : MK w (W.setCell ⟨B, j, none⟩ u) B0 B g n T := by
  obtain ⟨ys, hy⟩ := h.row
  refine ⟨h.bl.setCell h.leB _, h.cb.far h.ne3 _, h.ab.near hj u hu, ⟨ys, own_keep hy (fun q hq => ?_)⟩, h.ne1, h.ne2, h.ne3, h.leB⟩
  obtain rfl : g = q := by simpa [Value.ownBlock] using hq
  exact Below.heap_setCell _ _ _ _ h.ne1

set_option maxRecDepth 100000 in
set_option maxHeartbeats 4000000 in
theorem rmake_any (t : Nat) (w : World) (h1 : 1 ≤ t) (h8 : t ≤ 8) : Calls Tryd.prog 33 #[cfgV t] w fun r w' => ∃ B g, r = .returned (.pointer (some ⟨B, 0, none⟩)) ∧ Below w.heap.size w w' ∧ w'.cell? ⟨B, 0, none⟩ = some (.slice (some ⟨g, 0, none⟩) (11 + 10 * t) (11 + 10 * t)) ∧ ∃ ys : List (BitVec 64), w'.ownsRow w.heap.size 41 1 (.slice (some ⟨g, 0, none⟩) (11 + 10 * t) (11 + 10 * t)) (11 + 10 * t) (ys.map U) := by
  have hS := fun W => rsize_any (t : Int) W (by omega) (by omega)
  have hP := fun W => rpack4_any (t : Int) W (by omega) (by omega)
  have hBk := fun W => rblocks_any (t : Int) W
  obtain ⟨n, hn⟩ : ∃ n, 11 + 10 * t = n := ⟨_, rfl⟩
  have hN := fun W => rnew_any n W (by omega)
  rw [show (11 + 10 * (t : Int)) = (n : Int) by omega] at hS
  rw [hn]
  unfold cfgV at hS hP hBk ⊢
  obtain ⟨w1, hw1, hb1, hbox⟩ := CBox.make w (t : Int)
  have ⟨lt0, k0, k1, k2, k3, k4, k5, k6, k7, k8⟩ := hbox
  go_enter Tryd.func33, Tryd.ntmps33
  go_wp2_with fail
  clear k0 k1 k2 k3 k4 k5 k6 k7 k8 hw1
  ((refine (hS _).mono ?_); rintro r1 w2 ⟨rfl, h2⟩)
  replace hbox := hbox.below h2
  replace hb1 := hb1.trans (h2.mono hb1.size)
  replace lt0 := hbox.lt
  clear h2 hS
  go_wp2_with fail
  ((refine (hN _).mono ?_); rintro r1 w3 ⟨B, g, rfl, h2, g1, g2, g3, g4, ys, g5⟩)
  have hMK : MK w w3 w.heap.size B g n (t : Int) := ⟨hb1.trans (h2.mono hb1.size), hbox.below h2, g4, ⟨ys, own_base g5 hb1.size⟩, g3, by omega, by omega, Nat.le_trans hb1.size g1⟩
  clear h2 g1 g2 g3 g4 g5 hbox hb1 hN lt0
  have a0 := hMK.ab.c0
  obtain ⟨y, b0, b1, b2⟩ := hMK.word (show 0 < n by omega)
  have h02 : (0 : Int) < (n : Int) := by omega
  have h12 : (1 : Int) < (n : Int) := by omega
  have h32 : (3 : Int) < (n : Int) := by omega
  go_wp2_with fail
  replace hMK := b2 7597137583116413295#64
  rw [show U 7597137583116413295#64 = Value.int .u64 7597137583116413295 from rfl] at hMK
  clear a0 b0 b1 b2
  generalize w3.setCell ⟨g, 0, none⟩ (Value.int .u64 7597137583116413295) = w4 at *
  refine wp_region_held_drew (S := (fun W => W.cell? ⟨w.heap.size, 0, none⟩ = some (.int .i64 (t : Int)) ∧ W.cell? ⟨w.heap.size, 1, none⟩ = some (.int .i64 4) ∧ W.cell? ⟨w.heap.size, 2, none⟩ = some (.int .i64 1) ∧ W.cell? ⟨w.heap.size, 3, none⟩ = some (.int .i64 1) ∧ W.cell? ⟨w.heap.size, 4, none⟩ = some (.int .i64 4) ∧ W.cell? ⟨w.heap.size, 5, none⟩ = some (.int .i64 1) ∧ W.cell? ⟨w.heap.size, 6, none⟩ = some (.int .i64 6) ∧ W.cell? ⟨w.heap.size, 7, none⟩ = some (.int .i64 0) ∧ W.cell? ⟨w.heap.size, 8, none⟩ = some (.int .i64 1) ∧ W.cell? ⟨B, 0, none⟩ = some (.slice (some ⟨g, 0, none⟩) n n) ∧ MK w W w.heap.size B g n (t : Int))) (by kernel_rfl) ?_ (fun hHeld => ?_)
  · exact (hMK.below (below_drewN _ _ 1)).all
  refine wpAnyH_take (i := 0) (oi := { dst := some 14, op := Op.move (Operand.tmp 3), type := 72, pos := "ref.go:130", after := #[], guard := none }) (v := ?vm0) rfl (by kernel_rfl) (by kernel_rfl) (by kernel_rfl) (fun _ _ _ h => h) (Or.inl ⟨by rfl, ?hym0⟩) (by assumption) ?restm0
  case hym0 => first | (intro w hSw; (try dsimp only at hSw); go_simp; done) | (intro w hSw; (try dsimp only at hSw); go_simp; with_reducible rfl)
  try simp only [Act.put, List.setIfInBounds_toArray, List.set_cons_zero, List.set_cons_succ]
  refine wpAnyH_take (i := 1) (oi := { dst := some 15, op := Op.nilCheck (Operand.tmp 14), type := 0, pos := "ref.go:130", after := #[{ on := 0, ground := Ground.data }], guard := none }) (v := ?vm1) rfl (by kernel_rfl) (by kernel_rfl) (by kernel_rfl) (fun _ _ _ h => h) (Or.inl ⟨by rfl, ?hym1⟩) (by assumption) ?restm1
  case hym1 => first | (intro w hSw; (try dsimp only at hSw); go_simp; done) | (intro w hSw; (try dsimp only at hSw); go_simp; with_reducible rfl)
  try simp only [Act.put, List.setIfInBounds_toArray, List.set_cons_zero, List.set_cons_succ]
  refine wpAnyH_take (i := 2) (oi := { dst := some 16, op := Op.fieldAddr 71 (Operand.tmp 15) 0, type := 0, pos := "ref.go:130", after := #[{ on := 1, ground := Ground.data }], guard := none }) (v := ?vm2) rfl (by kernel_rfl) (by kernel_rfl) (by kernel_rfl) (fun _ _ _ h => h) (Or.inl ⟨by rfl, ?hym2⟩) (by assumption) ?restm2
  case hym2 => first | (intro w hSw; (try dsimp only at hSw); go_simp; done) | (intro w hSw; (try dsimp only at hSw); go_simp; with_reducible rfl)
  try simp only [Act.put, List.setIfInBounds_toArray, List.set_cons_zero, List.set_cons_succ]
  refine wpAnyH_take (i := 3) (oi := { dst := some 17, op := Op.load 36 (Operand.tmp 16), type := 36, pos := "ref.go:130", after := #[{ on := 2, ground := Ground.data }], guard := none }) (v := ?vm3) rfl (by kernel_rfl) (by kernel_rfl) (by kernel_rfl) (fun _ _ _ h => h) (Or.inl ⟨by rfl, ?hym3⟩) (by assumption) ?restm3
  case hym3 => first | (intro w hSw; (try dsimp only at hSw); go_simp; done) | (intro w hSw; (try dsimp only at hSw); go_simp; with_reducible rfl)
  try simp only [Act.put, List.setIfInBounds_toArray, List.set_cons_zero, List.set_cons_succ]
  refine wpAnyH_take (i := 4) (oi := { dst := some 18, op := Op.load 66 (Operand.tmp 1), type := 66, pos := "ref.go:130", after := #[], guard := none }) (v := ?vm4) rfl (by kernel_rfl) (by kernel_rfl) (by kernel_rfl) (fun _ _ _ h => h) (Or.inl ⟨by rfl, ?hym4⟩) (by assumption) ?restm4
  case hym4 => first | (intro w hSw; (try dsimp only at hSw); go_simp; done) | (intro w hSw; (try dsimp only at hSw); go_simp; with_reducible rfl)
  try simp only [Act.put, List.setIfInBounds_toArray, List.set_cons_zero, List.set_cons_succ]
  refine wpAnyH_ready (rs := [5]) (by kernel_rfl) (by simp) ?_
  refine AllReadyH.cons (o := { dst := some 19, op := Op.call { callee := Callee.value (Operand.func 64), args := #[Operand.tmp 18], argTypes := #[66] }, type := 41, pos := "ref.go:130", after := #[{ on := 4, ground := Ground.data }], guard := none }) rfl (fun K hK => ?_) AllReadyH.nil
  go_simp
  ((refine (hP _).mono ?_); rintro r5 w10 ⟨x, rfl, hb3⟩)
  refine hK.out _ _ ?_ (fun hHeld => ?_)
  · exact (MK.last hHeld).below hb3 |>.all
  clear hK K
  try simp only [Act.put, List.setIfInBounds_toArray, List.set_cons_zero, List.set_cons_succ]
  refine wpAnyH_take (i := 6) (oi := { dst := some 20, op := Op.indexAddr 36 (Operand.tmp 17) (Operand.const (Value.int IntKind.i64 1)), type := 0, pos := "ref.go:130", after := #[{ on := 3, ground := Ground.data }, { on := 0, ground := Ground.phase }, { on := 1, ground := Ground.phase }, { on := 2, ground := Ground.phase }, { on := 3, ground := Ground.phase }, { on := 4, ground := Ground.phase }, { on := 5, ground := Ground.phase }], guard := none }) (v := ?vm6) rfl (by kernel_rfl) (by kernel_rfl) (by kernel_rfl) (fun _ _ _ h => h) (Or.inl ⟨by rfl, ?hym6⟩) (by assumption) ?restm6
  case hym6 => first | (intro w hSw; (try dsimp only at hSw); go_simp; done) | (intro w hSw; (try dsimp only at hSw); go_simp; with_reducible rfl)
  try simp only [Act.put, List.setIfInBounds_toArray, List.set_cons_zero, List.set_cons_succ]
  refine wpAnyH_ready (rs := [7]) (by kernel_rfl) (by simp) ?_
  refine AllReadyH.cons (o := { dst := none, op := Op.store 41 (Operand.tmp 20) (Operand.tmp 19), type := 0, pos := "ref.go:130", after := #[{ on := 6, ground := Ground.data }, { on := 5, ground := Ground.data }, { on := 5, ground := Ground.chain }, { on := 0, ground := Ground.phase }, { on := 1, ground := Ground.phase }, { on := 2, ground := Ground.phase }, { on := 3, ground := Ground.phase }, { on := 4, ground := Ground.phase }, { on := 5, ground := Ground.phase }], guard := none }) rfl (fun K hK => ?_) AllReadyH.nil
  obtain ⟨y1, d0, d1, d2⟩ := (MK.last hHeld).word (show 1 < n by omega)
  go_simp
  refine hK.out _ _ ?_ (fun hHeld => ?_)
  · exact (d2 _).all
  clear hK K
  try simp only [Act.put, List.setIfInBounds_toArray, List.set_cons_zero, List.set_cons_succ]
  refine wpAnyH_done (by kernel_rfl) ?_ _
  have hMK2 := MK.last hHeld
  clear hHeld hMK hP
  generalize w10.setCell ⟨g, 1, none⟩ (U x) = w5 at *
  have a0 := hMK2.ab.c0
  have a5 := hMK2.cb.c5
  have a7 := hMK2.cb.c7
  obtain ⟨y, b0, b1, b2⟩ := hMK2.word (show 3 < n by omega)
  have ec1 : w5.cell? ⟨w.heap.size, 0, none⟩ = _ := hMK2.cb.c0
  have ec2 := hMK2.cb.c1
  have ec3 := hMK2.cb.c2
  have ec4 := hMK2.cb.c3
  have ec5 := hMK2.cb.c4
  have ec6 := hMK2.cb.c6
  have ec7 := hMK2.cb.c8
  go_wp2_with fail
  have hMK := b2 1#64
  rw [show U 1#64 = Value.int .u64 1 from rfl] at hMK
  clear a0 a5 a7 b0 b1 b2 ec1 ec2 ec3 ec4 ec5 ec6 ec7 hMK2
  generalize w5.setCell ⟨g, 3, none⟩ (Value.int .u64 1) = w6 at *
  have ⟨_, k0, k1, k2, k3, k4, k5, k6, k7, k8⟩ := hMK.cb
  refine wp_loop_rounds 1 ?_
  rw [rounds_succ]
  go_wp2_with fail
  clear k0 k1 k2 k3 k4 k5 k6 k7 k8
  ((refine (hBk _).mono ?_); rintro r1 w7 ⟨rfl, h2⟩)
  replace hMK := hMK.below h2
  clear h2 hBk
  go_wp2_with fail
  go_loopw [5] (fun i wz => ∃ k : Nat, k ≤ n ∧ i = .int .i64 k ∧ MK w wz w.heap.size B g n (t : Int)) (fun i _ => n - (intOf i).toNat)
  case atStart => exact ⟨0, Nat.zero_le _, rfl, hMK⟩
  case round =>
    clear hMK
    obtain ⟨k, hk, rfl, hMK⟩ := hrel
    have a0 := hMK.ab.c0
    by_cases hkn : k < n
    · have hki : (k : Int) < (n : Int) := by omega
      have hn9 : n ≤ 1000 := by omega
      obtain ⟨y, b0, b1, b2⟩ := hMK.word hkn
      obtain ⟨s1, a1⟩ := hMK.ab.c1
      obtain ⟨s2, a2⟩ := hMK.ab.c2
      obtain ⟨s3, a3⟩ := hMK.ab.c3
      obtain ⟨s4, a4⟩ := hMK.ab.c4
      obtain ⟨s5, a5⟩ := hMK.ab.c5
      have f1 := hMK.ab.fz 1
      have f2 := hMK.ab.fz 2
      have f3 := hMK.ab.fz 3
      have f4 := hMK.ab.fz 4
      have f5 := hMK.ab.fz 5
      have hne := hMK.ne1
      have HMK := hid hMK
      clear hMK b1 b2
      by_cases hy : y = 0#64
      · subst hy
        have hyd : (0#64 != 0#64) = false := rfl
        clear a1 a2 a3 a4 a5 f1 f2 f3 f4 f5
        go_wp2_with fail
        go_roundw
        case rel => exact ⟨k + 1, by omega, by go_num, HMK.out⟩
        case measure => simp [intOf] <;> omega
      · have hyd : (y != 0#64) = true := bne_iff_ne.2 hy
        go_wp2_with fail
        go_roundw
        case rel =>
          exact ⟨k + 1, by omega, by go_num, ((((HMK.out.near (j := 1) (by omega) _ (fun _ => ⟨_, rfl⟩)).near (j := 2) (by omega) _ (by omega)).near (j := 3) (by omega) _ (by omega)).near (j := 4) (by omega) _ (by omega)).near (j := 5) (by omega) _ (by omega)⟩
        case measure => simp [intOf] <;> omega
    · have hki : ¬ ((k : Int) < (n : Int)) := by omega
      go_wp2_with fail
      go_ret
      obtain ⟨ys, hy⟩ := hMK.row
      exact ⟨B, rfl, hMK.bl, g, a0, ys, hy⟩
end Go.Proofs.YtbhnbjaafejcjaaDoor


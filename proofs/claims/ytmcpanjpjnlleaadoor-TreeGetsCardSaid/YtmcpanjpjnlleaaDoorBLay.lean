/- build's builder: words are laid behind all, and referred to. -/
import Derived.Test.YtmcpanjpjnlleaaDoorBRef
import Derived.Test.YtmcpanjpjnlleaaDoorKeep
set_option linter.unusedVariables false
namespace Go.Proofs.YtmcpanjpjnlleaaDoor
open Go.RowKit

/-- A builder, and its words. -/
structure BB (w : World) (B : Nat) (sv : Value) (base : Nat) (wv : Value) (ws : List (BitVec 64)) : Prop where
  lt : B < w.heap.size
  c0 : w.cell? ⟨B, 0, none⟩ = some sv
  c1 : w.cell? ⟨B, 1, none⟩ = some wv
  fz : ∀ j, w.frozen? ⟨B, j, none⟩ = false
  own : w.ownsRow base 30 1 wv ws.length (ws.map U)
  ne : wv.ownBlock ≠ some B
theorem BB.below {w w' : World} {B base : Nat} {sv wv : Value} {ws : List (BitVec 64)} (h : BB w B sv base wv ws) (hb : Below w.heap.size w w') : BB w' B sv base wv ws :=
  ⟨Nat.lt_of_lt_of_le h.lt hb.size, (hb.cell h.lt).trans h.c0, (hb.cell h.lt).trans h.c1, fun j => (hb.frozen h.lt).trans (h.fz j), own_beneath h.own hb, h.ne⟩
theorem own_setN {w : World} {base g n cap sz : Nat} {e : TypeId} {xs : List Value} (h : w.ownsRow base e sz (.slice (some ⟨g, 0, none⟩) n cap) n xs) (o : Nat) (u : Value) :
    (w.setCell ⟨g, o, none⟩ u).ownsRow base e sz (.slice (some ⟨g, 0, none⟩) n cap) n (xs.set o u) := by
  rcases h.2 with ⟨h', _⟩ | ⟨g', cap', cur, h', hb, hg, hn, hm, hs, ht⟩
  · simp at h'
  · simp only [Value.slice.injEq, Option.some.injEq, Addr.mk.injEq, and_true, true_and] at h'
    obtain ⟨rfl, rfl⟩ := h'
    refine ⟨by rw [List.length_set]; exact h.1, .inr ⟨g, cap, cur.setIfInBounds o u, rfl, hb, ?_, hn, hm, by simp [hs], ?_⟩⟩
    · show (w.heap.modify g _)[g]? = _
      simp [Array.getElem?_modify, hg]
    · simp [Array.toList_setIfInBounds, List.take_set, ht]
theorem BB.word {w : World} {B base g cap : Nat} {sv : Value} {ws : List (BitVec 64)} {n : Nat} (h : BB w B sv base (.slice (some ⟨g, 0, none⟩) n cap) ws) (hn : n = ws.length) {o : Nat} (ho : o < n) :
    ∃ y : BitVec 64, w.cell? ⟨g, o, none⟩ = some (U y) ∧ w.frozen? ⟨g, o, none⟩ = false ∧ ∀ v : BitVec 64, BB (w.setCell ⟨g, o, none⟩ (U v)) B sv base (.slice (some ⟨g, 0, none⟩) n cap) (ws.set o v) := by
  subst hn
  have hgB : g ≠ B := fun e => h.ne (by simp [Value.ownBlock, e])
  have hc := h.own.cellAt o (by omega)
  rw [List.getElem?_map, List.getElem?_eq_getElem ho] at hc
  refine ⟨ws[o], hc, h.own.frozenAt o, fun v => ?_⟩
  have e : ∀ j, (w.setCell ⟨g, o, none⟩ (U v)).cell? ⟨B, j, none⟩ = w.cell? ⟨B, j, none⟩ := fun j => World.cell?_of_block (a := ⟨B, j, none⟩) (Below.heap_setCell _ _ _ _ (fun e => hgB e.symm))
  refine ⟨by simpa [World.setCell] using h.lt, by rw [e]; exact h.c0, by rw [e]; exact h.c1, fun j => by rw [World.frozen?_setCell]; exact h.fz j, ?_, h.ne⟩
  have := own_setN h.own o (U v)
  rw [← List.map_set] at this
  rw [List.length_set]
  exact this

/-- While a reference is laid: the words as they were, or with it. -/
def LayS (w0 : World) (B : Nat) (sv : Value) (base g k cap : Nat) (ws : List (BitVec 64)) (p : Nat) (v : BitVec 64) (W : World) : Prop :=
  W.cell? ⟨B, 1, none⟩ = some (.slice (some ⟨g, 0, none⟩) k cap) ∧ (BB W B sv base (.slice (some ⟨g, 0, none⟩) k cap) ws ∨ BB W B sv base (.slice (some ⟨g, 0, none⟩) k cap) (ws.set p v)) ∧ Below base w0 W
theorem LayS.start {w0 : World} {B : Nat} {sv : Value} {base g k cap : Nat} {ws : List (BitVec 64)} {p : Nat} {v : BitVec 64} {W : World} (h : BB W B sv base (.slice (some ⟨g, 0, none⟩) k cap) ws) (hb : Below base w0 W) : LayS w0 B sv base g k cap ws p v W := ⟨h.c1, .inl h, hb⟩
theorem LayS.put {w0 : World} {B : Nat} {sv : Value} {base g k cap : Nat} {ws : List (BitVec 64)} {p : Nat} {v : BitVec 64} {W : World} (h : LayS w0 B sv base g k cap ws p v W) (hk : k = ws.length) (hp : p < k) (hg : base ≤ g) :
    ∃ y : BitVec 64, W.cell? ⟨g, p, none⟩ = some (U y) ∧ W.frozen? ⟨g, p, none⟩ = false ∧ BB (W.setCell ⟨g, p, none⟩ (U v)) B sv base (.slice (some ⟨g, 0, none⟩) k cap) (ws.set p v) ∧ Below base w0 (W.setCell ⟨g, p, none⟩ (U v)) := by
  obtain ⟨_, h1, h2⟩ := h
  have hb2 := h2.setCell (p := ⟨g, p, none⟩) hg (U v)
  rcases h1 with h1 | h1
  · obtain ⟨y, g1, g2, g3⟩ := h1.word hk hp
    exact ⟨y, g1, g2, g3 v, hb2⟩
  · obtain ⟨y, g1, g2, g3⟩ := h1.word (by rw [List.length_set]; exact hk) hp
    have := g3 v
    rw [List.set_set] at this
    exact ⟨y, g1, g2, this, hb2⟩

theorem bb_after {w w7 : World} {B : Nat} {sv wv : Value} {base : Nat} {ws : List (BitVec 64)} (h : BB w B sv base wv ws) (hg : w.grownBy w7 wv.ownBlock) (hne : wv.ownBlock ≠ some B) : w7.cell? ⟨B, 1, none⟩ = some wv ∧ w7.frozen? ⟨B, 1, none⟩ = false := by
  have hb := hg.block B h.lt (fun e => hne e.symm)
  exact ⟨(World.cell?_of_block (a := ⟨B, 1, none⟩) hb).trans h.c1, (World.frozen?_of_block (a := ⟨B, 1, none⟩) hb).trans (h.fz 1)⟩
theorem bb_store {w w7 : World} {B : Nat} {sv wv v' : Value} {base n : Nat} {ws ws' : List (BitVec 64)} (h : BB w B sv base wv ws) (hg : w.grownBy w7 wv.ownBlock) (ho : w7.ownsRow base 30 1 v' n (ws'.map U)) (hn : n = ws'.length) (hat : v'.ownBlock = wv.ownBlock ∨ v'.ownBlock = some w.heap.size) :
    BB (w7.setCell ⟨B, 1, none⟩ v') B sv base v' ws' := by
  subst hn
  have hb := hg.block B h.lt (fun e => h.ne e.symm)
  have hne : v'.ownBlock ≠ some B := by
    rcases hat with e | e
    · rw [e]; exact h.ne
    · rw [e]; intro e2; have := Option.some.inj e2; have := h.lt; omega
  have hc1 := (World.cell?_of_block (a := ⟨B, 1, none⟩) hb).trans h.c1
  refine ⟨?_, ?_, World.cell?_setCell_same w7 _ _ hc1, fun j => ?_, ?_, hne⟩
  · have := hg.size; have := h.lt; simp [World.setCell]; omega
  · rw [show (w7.setCell ⟨B, 1, none⟩ v').cell? ⟨B, 0, none⟩ = w7.cell? ⟨B, 0, none⟩ by simp [go_sem]]
    exact (World.cell?_of_block (a := ⟨B, 0, none⟩) hb).trans h.c0
  · rw [World.frozen?_setCell]; exact (World.frozen?_of_block (a := ⟨B, j, none⟩) hb).trans (h.fz j)
  · exact own_keep ho fun q e => Below.heap_setCell _ _ _ _ (by rintro rfl; exact hne e)

def LayP (g p n : Nat) (ys : List (BitVec 64)) (B : Nat) (sv : Value) (base : Nat) (ws : List (BitVec 64)) (w0 : World) (e : Ending) (w' : World) : Prop :=
  e = .returned (.int .i64 (ws.length : Nat)) ∧ ∃ wv', BB w' B sv base wv' (ws.set p (refV ((ws.length : Int) - p) n) ++ ys) ∧ w0.heap.size ≤ w'.heap.size ∧ Below base w0 w' ∧ (∀ b, b < w0.heap.size → b ≠ B → b ≠ g → w'.heap[b]? = w0.heap[b]?)

set_option maxRecDepth 100000 in
set_option maxHeartbeats 8000000 in
theorem lay_yes (p n : Nat) (hn : 0 < n) (hn2 : n ≤ 1000) (ys : List (BitVec 64)) (hy : 0 < ys.length) (hy2 : ys.length ≤ 1000) (B base g cap k : Nat) (sv yv : Value) (ws : List (BitVec 64)) (w : World) (hk : k = ws.length) (hk2 : k ≤ 1000000) (hp : p < k)
    (h : BB w B sv base (.slice (some ⟨g, 0, none⟩) k cap) ws) (hbB : base ≤ B) (hyr : Row w 1 yv ys.length (ys.map U)) (hyb : ∀ b off m c, yv = .slice (some ⟨b, off, none⟩) m c → b < base) :
    Calls Tryd.prog 71 #[.pointer (some ⟨B, 0, none⟩), .int .i64 p, .int .i64 n, yv] w (LayP g p n ys B sv base ws w) := by
  obtain ⟨iU, hiU, hzU, hsU, hbU⟩ := info_parts (show (Tryd.prog.info? 30).map (fun i => (i.zero, i.size, i.bytes)) = some (some (.int .u64 0), 1, 8) by kernel_rfl)
  have c1 := h.c1
  have Hk := hid hk
  have hBB := hid (h : BB w B sv base (.slice (some ⟨g, 0, none⟩) k cap) ws)
  clear h hk
  have hkp : IntKind.i64.wrap ((k : Int) - (p : Int)) = (k : Int) - (p : Int) := IntWalk.i64_in _ (by omega)
  have hpk2 : (p : Int) < (k : Int) := by omega
  have hgb : base ≤ g := (own_blk hBB.out.own (g := g) rfl).2
  have hRef := hid fun W => ref_any ((k : Int) - (p : Int)) (n : Int) W
  have hnd : decide ((0 : Int) < (n : Int)) = true := decide_eq_true (by omega)
  go_enter Tryd.func71, Tryd.ntmps71
  go_wp2_with fail
  refine wp_region_held_drew (S := (fun W => W.cell? ⟨B, 1, none⟩ = some (.slice (some ⟨g, 0, none⟩) k cap) ∧ (BB W B sv base (.slice (some ⟨g, 0, none⟩) k cap) ws ∨ BB W B sv base (.slice (some ⟨g, 0, none⟩) k cap) (ws.set p (refV ((k : Int) - p) n))) ∧ Below base w W)) (by kernel_rfl) ?_ (fun hHeld => ?_)
  · exact LayS.start (hBB.out.below (below_drewN _ _ 1)) (below_drewN _ _ 1)
  refine wpAnyH_take (i := 0) (oi := { dst := some 17, op := Op.move (Operand.tmp 0), type := 106, pos := "build.go:30", after := #[], guard := none }) (v := ?vl0) rfl (by kernel_rfl) (by kernel_rfl) (by kernel_rfl) (fun _ _ _ h => h) (Or.inl ⟨by rfl, ?hyl0⟩) (by assumption) ?restl0
  case hyl0 => first | (intro w hSw; (try dsimp only at hSw); go_simp; done) | (intro w hSw; (try dsimp only at hSw); go_simp; with_reducible rfl)
  try simp only [Act.put, List.setIfInBounds_toArray, List.set_cons_zero, List.set_cons_succ]
  refine wpAnyH_take (i := 1) (oi := { dst := some 18, op := Op.nilCheck (Operand.tmp 17), type := 0, pos := "build.go:30", after := #[{ on := 0, ground := Ground.data }], guard := none }) (v := ?vl1) rfl (by kernel_rfl) (by kernel_rfl) (by kernel_rfl) (fun _ _ _ h => h) (Or.inl ⟨by rfl, ?hyl1⟩) (by assumption) ?restl1
  case hyl1 => first | (intro w hSw; (try dsimp only at hSw); go_simp; done) | (intro w hSw; (try dsimp only at hSw); go_simp; with_reducible rfl)
  try simp only [Act.put, List.setIfInBounds_toArray, List.set_cons_zero, List.set_cons_succ]
  refine wpAnyH_take (i := 2) (oi := { dst := some 19, op := Op.fieldAddr 108 (Operand.tmp 18) 1, type := 0, pos := "build.go:30", after := #[{ on := 1, ground := Ground.data }], guard := none }) (v := ?vl2) rfl (by kernel_rfl) (by kernel_rfl) (by kernel_rfl) (fun _ _ _ h => h) (Or.inl ⟨by rfl, ?hyl2⟩) (by assumption) ?restl2
  case hyl2 => first | (intro w hSw; (try dsimp only at hSw); go_simp; done) | (intro w hSw; (try dsimp only at hSw); go_simp; with_reducible rfl)
  try simp only [Act.put, List.setIfInBounds_toArray, List.set_cons_zero, List.set_cons_succ]
  refine wpAnyH_take (i := 3) (oi := { dst := some 20, op := Op.load 31 (Operand.tmp 19), type := 31, pos := "build.go:30", after := #[{ on := 2, ground := Ground.data }], guard := none }) (v := ?vl3) rfl (by kernel_rfl) (by kernel_rfl) (by kernel_rfl) (fun _ _ _ h => h) (Or.inl ⟨by rfl, ?hyl3⟩) (by assumption) ?restl3
  case hyl3 => first | (intro w hSw; (try dsimp only at hSw); go_simp; done) | (intro w hSw; (try dsimp only at hSw); go_simp; with_reducible rfl)
  try simp only [Act.put, List.setIfInBounds_toArray, List.set_cons_zero, List.set_cons_succ]
  refine wpAnyH_take (i := 4) (oi := { dst := some 21, op := Op.move (Operand.tmp 1), type := 3, pos := "build.go:30", after := #[], guard := none }) (v := ?vl4) rfl (by kernel_rfl) (by kernel_rfl) (by kernel_rfl) (fun _ _ _ h => h) (Or.inl ⟨by rfl, ?hyl4⟩) (by assumption) ?restl4
  case hyl4 => first | (intro w hSw; (try dsimp only at hSw); go_simp; done) | (intro w hSw; (try dsimp only at hSw); go_simp; with_reducible rfl)
  try simp only [Act.put, List.setIfInBounds_toArray, List.set_cons_zero, List.set_cons_succ]
  refine wpAnyH_take (i := 5) (oi := { dst := some 22, op := Op.move (Operand.tmp 9), type := 3, pos := "build.go:30", after := #[], guard := none }) (v := ?vl5) rfl (by kernel_rfl) (by kernel_rfl) (by kernel_rfl) (fun _ _ _ h => h) (Or.inl ⟨by rfl, ?hyl5⟩) (by assumption) ?restl5
  case hyl5 => first | (intro w hSw; (try dsimp only at hSw); go_simp; done) | (intro w hSw; (try dsimp only at hSw); go_simp; with_reducible rfl)
  try simp only [Act.put, List.setIfInBounds_toArray, List.set_cons_zero, List.set_cons_succ]
  refine wpAnyH_take (i := 6) (oi := { dst := some 23, op := Op.move (Operand.tmp 1), type := 3, pos := "build.go:30", after := #[], guard := none }) (v := ?vl6) rfl (by kernel_rfl) (by kernel_rfl) (by kernel_rfl) (fun _ _ _ h => h) (Or.inl ⟨by rfl, ?hyl6⟩) (by assumption) ?restl6
  case hyl6 => first | (intro w hSw; (try dsimp only at hSw); go_simp; done) | (intro w hSw; (try dsimp only at hSw); go_simp; with_reducible rfl)
  try simp only [Act.put, List.setIfInBounds_toArray, List.set_cons_zero, List.set_cons_succ]
  refine wpAnyH_take (i := 7) (oi := { dst := some 24, op := Op.binOp BinOp.sub 3 (Operand.tmp 22) (Operand.tmp 23) 3, type := 3, pos := "build.go:30", after := #[{ on := 5, ground := Ground.data }, { on := 6, ground := Ground.data }], guard := none }) (v := ?vl7) rfl (by kernel_rfl) (by kernel_rfl) (by kernel_rfl) (fun _ _ _ h => h) (Or.inl ⟨by rfl, ?hyl7⟩) (by assumption) ?restl7
  case hyl7 => first | (intro w hSw; (try dsimp only at hSw); go_simp; done) | (intro w hSw; (try dsimp only at hSw); go_simp; with_reducible rfl)
  try simp only [Act.put, List.setIfInBounds_toArray, List.set_cons_zero, List.set_cons_succ]
  refine wpAnyH_take (i := 8) (oi := { dst := some 25, op := Op.move (Operand.tmp 2), type := 3, pos := "build.go:30", after := #[], guard := none }) (v := ?vl8) rfl (by kernel_rfl) (by kernel_rfl) (by kernel_rfl) (fun _ _ _ h => h) (Or.inl ⟨by rfl, ?hyl8⟩) (by assumption) ?restl8
  case hyl8 => first | (intro w hSw; (try dsimp only at hSw); go_simp; done) | (intro w hSw; (try dsimp only at hSw); go_simp; with_reducible rfl)
  try simp only [Act.put, List.setIfInBounds_toArray, List.set_cons_zero, List.set_cons_succ]
  refine wpAnyH_ready (rs := [9]) (by kernel_rfl) (by simp) ?_
  refine AllReadyH.cons (o := { dst := some 26, op := Op.call { callee := Callee.value (Operand.func 24), args := #[Operand.tmp 24, Operand.tmp 25], argTypes := #[3, 3] }, type := 30, pos := "build.go:30", after := #[{ on := 7, ground := Ground.data }, { on := 8, ground := Ground.data }], guard := none }) rfl (fun K hK => ?_) AllReadyH.nil
  go_simp
  ((refine (hRef.out _).mono ?_); rintro r5 w10 ⟨rfl, rfl⟩)
  refine hK.out _ _ ?_ (fun hHeld => ?_)
  · exact hHeld
  clear hK K
  try simp only [Act.put, List.setIfInBounds_toArray, List.set_cons_zero, List.set_cons_succ]
  refine wpAnyH_take (i := 10) (oi := { dst := some 27, op := Op.indexAddr 31 (Operand.tmp 20) (Operand.tmp 21), type := 0, pos := "build.go:30", after := #[{ on := 3, ground := Ground.data }, { on := 4, ground := Ground.data }, { on := 0, ground := Ground.phase }, { on := 1, ground := Ground.phase }, { on := 2, ground := Ground.phase }, { on := 3, ground := Ground.phase }, { on := 4, ground := Ground.phase }, { on := 5, ground := Ground.phase }, { on := 6, ground := Ground.phase }, { on := 7, ground := Ground.phase }, { on := 8, ground := Ground.phase }, { on := 9, ground := Ground.phase }], guard := none }) (v := ?vl10) rfl (by kernel_rfl) (by kernel_rfl) (by kernel_rfl) (fun _ _ _ h => h) (Or.inl ⟨by rfl, ?hyl10⟩) (by assumption) ?restl10
  case hyl10 => first | (intro w hSw; (try dsimp only at hSw); go_simp; done) | (intro w hSw; (try dsimp only at hSw); go_simp; with_reducible rfl)
  try simp only [Act.put, List.setIfInBounds_toArray, List.set_cons_zero, List.set_cons_succ]
  refine wpAnyH_ready (rs := [11]) (by kernel_rfl) (by simp) ?_
  refine AllReadyH.cons (o := { dst := none, op := Op.store 30 (Operand.tmp 27) (Operand.tmp 26), type := 0, pos := "build.go:30", after := #[{ on := 10, ground := Ground.data }, { on := 9, ground := Ground.data }, { on := 9, ground := Ground.chain }, { on := 0, ground := Ground.phase }, { on := 1, ground := Ground.phase }, { on := 2, ground := Ground.phase }, { on := 3, ground := Ground.phase }, { on := 4, ground := Ground.phase }, { on := 5, ground := Ground.phase }, { on := 6, ground := Ground.phase }, { on := 7, ground := Ground.phase }, { on := 8, ground := Ground.phase }, { on := 9, ground := Ground.phase }], guard := none }) rfl (fun K hK => ?_) AllReadyH.nil
  obtain ⟨y1, d0, d1, d2, d3⟩ := LayS.put (v := (refV ((k : Int) - p) n)) hHeld Hk.out hp hgb
  go_simp
  refine hK.out _ _ ?_ (fun hHeld => ?_)
  · exact ⟨d2.c1, .inr d2, d3⟩
  clear hK K
  try simp only [Act.put, List.setIfInBounds_toArray, List.set_cons_zero, List.set_cons_succ]
  refine wpAnyH_done (by kernel_rfl) ?_ _
  have hB3 : BB (w.setCell ⟨g, p, none⟩ (U (refV ((k : Int) - p) n))).drew B sv base (.slice (some ⟨g, 0, none⟩) k cap) (ws.set p (refV ((k : Int) - p) n)) := d2
  have hb3 : Below base w (w.setCell ⟨g, p, none⟩ (U (refV ((k : Int) - p) n))).drew := d3
  have hkp3 : ∀ b, b ≠ g → (w.setCell ⟨g, p, none⟩ (U (refV ((k : Int) - p) n))).drew.heap[b]? = w.heap[b]? := fun b hb => Below.heap_setCell w ⟨g, p, none⟩ (U (refV ((k : Int) - p) n)) b hb
  have hsz3 : w.heap.size = (w.setCell ⟨g, p, none⟩ (U (refV ((k : Int) - p) n))).drew.heap.size := by show _ = (w.setCell ⟨g, p, none⟩ (U (refV ((k : Int) - p) n))).heap.size; simp [World.setCell]
  have Hkp3 := hid (And.intro hkp3 hsz3)
  clear d0 d1 d2 d3 hHeld c1 hkp3 hsz3
  generalize (w.setCell ⟨g, p, none⟩ (U (refV ((k : Int) - p) n))).drew = w3 at *
  obtain ⟨by_, offy, capy, hye, hy5, hy6, hy7, hyc⟩ := hyr.cons (by omega)
  subst hye
  have hnews : ∀ j u, (ys.map U)[j]? = some u → w3.cell? ((⟨by_, offy, none⟩ : Addr).add j) = some u := fun j u e => by
    have hj : j < ys.length := by have := (List.getElem?_eq_some_iff.1 e).1; simpa using this
    rw [Addr.add_lit, hb3.cell (p := ⟨by_, offy + j, none⟩) (hyb _ _ _ _ rfl), hyc j (by omega)]; exact e
  have hsl : (ws.set p (refV ((k : Int) - p) n)).length = k := by rw [List.length_set]; exact Hk.out.symm
  have Hsl := hid hsl
  have hownb := hB3.own
  rw [hsl] at hownb
  have HB3 := hid hB3
  have c1 := hB3.c1
  obtain ⟨m, hm⟩ : ∃ m, m = ys.length := ⟨_, rfl⟩
  have Hm := hid hm
  rw [← hm] at hy hy2 ⊢
  have hnl : (ys.map U).length = m * 1 := by rw [List.length_map, hm]; omega
  have hone : ∀ u ∈ ys.map U, u.oneCell' = true := fun u hu => by obtain ⟨x, _, rfl⟩ := List.mem_map.1 hu; rfl
  have hbs : base ≤ w3.heap.size := Nat.le_trans hbB (Nat.le_of_lt hB3.lt)
  have hne : (Value.slice (some ⟨g, 0, none⟩) k cap).ownBlock ≠ some B := hB3.ne
  clear hB3 hm hyr hyc hsl
  generalize hw3 : ws.set p (refV ((k : Int) - p) n) = ws3 at *
  have Hw3 := hid hw3
  clear hw3
  go_wp2_with (at_builtin; go_must (refine wpList_append_own_at _ rfl (.tmp 32) (.tmp 33) 31 rfl base 30 iU _ 1 8 Tryd.underlying31 hiU hzU hsU hbU rfl (by omega) _ k _ rfl hownb ⟨by_, offy, none⟩ m capy (ys.map U) rfl hnl hnews hone (by unfold maxLen; omega) (by omega) hbs ?_); intro v7 w7 ho7 hg7 _ hat7; obtain ⟨y1, yf1⟩ := bb_after HB3.out hg7 hne; obtain ⟨a7, c7, rfl⟩ := own_shape ho7)
  have hfin := bb_store (ws' := ws3 ++ ys) HB3.out hg7 (by rw [List.map_append]; exact ho7) (by rw [List.length_append, Hsl.out, Hm.out]) hat7
  have hg7b : Below base w3 w7 := (Below.refl base w3).grown hg7 hbs fun q e => (own_blk hownb e).2
  have hs7 := hg7.size
  go_ret
  refine ⟨by rw [← Hk.out]; rfl, _, by rw [← Hk.out, Hw3.out]; exact hfin, ?_, hb3.trans (hg7b.setCell (p := ⟨B, 1, none⟩) hbB _), fun b h1 h2 h3 => ?_⟩
  · have := hb3.size
    simp [World.setCell]; omega
  · rw [Below.heap_setCell _ _ _ _ h2, hg7.block b (by rw [← Hkp3.out.2]; exact h1) (fun e => h3 (Option.some.inj (show some b = some g from e))), Hkp3.out.1 b h3]
end Go.Proofs.YtmcpanjpjnlleaaDoor


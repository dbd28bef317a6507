/- build's builder: words are laid behind all, and referred to; whatever they are. -/
import Derived.Test.YtblbhlgihlgncaaDoorGj
import Derived.Test.YtblbhlgihlgncaaDoorGd
import Derived.Test.YtblbhlgihlgncaaDoorGk
import Derived.Laws.EntriesVeiled
import Derived.Test.YtblbhlgihlgncaaDoorGh
import Derived.Outline
import Derived.Test.YtblbhlgihlgncaaDoorGg
set_option linter.unusedVariables false
set_option linter.unusedSimpArgs false
namespace Go.Proofs.YtblbhlgihlgncaaDoor
section SBLayG
open Go.RowKit

/-- A builder, and its words. -/
structure BB (w : World) (B : Nat) (sv : Value) (base : Nat) (wv : Value) (ws : List (BitVec 64)) : Prop where
  lt : B < w.heap.size
  c0 : w.cell? ⟨B, 0, none⟩ = some sv
  c1 : w.cell? ⟨B, 1, none⟩ = some wv
  fz : ∀ j, w.frozen? ⟨B, j, none⟩ = false
  own : w.ownsRow base 28 1 wv ws.length (ws.map U)
  ne : wv.ownBlock ≠ some B
theorem BB.below {w w' : World} {B base : Nat} {sv wv : Value} {ws : List (BitVec 64)} (h : BB w B sv base wv ws) (hb : Below w.heap.size w w') : BB w' B sv base wv ws :=
  ⟨Nat.lt_of_lt_of_le h.lt hb.size, (hb.cell h.lt).trans h.c0, (hb.cell h.lt).trans h.c1, fun j => (hb.frozen h.lt).trans (h.fz j), own_beneath h.own hb, h.ne⟩
theorem own_setN {w : World} {base g n cap sz : Nat} {e : TypeId} {xs : List Value} (h : w.ownsRow base e sz (.slice (some ⟨g, 0, none⟩) n cap) n xs) (o : Nat) (u : Value) :
    (w.setCell ⟨g, o, none⟩ u).ownsRow base e sz (.slice (some ⟨g, 0, none⟩) n cap) n (xs.set o u) := by
  rcases h.2 with ⟨h', _⟩ | ⟨g', cap', cur, h', hb, hg, hn, hm, hs, ht⟩
  · simp at h'
  · simp only [Value.slice.injEq, Option.some.injEq, Addr.mk.injEq, and_true, true_and] at h'
    obtain ⟨rfl, rfl⟩ := h'
    refine ⟨by rw [List.length_set]; exact h.1, .inr ⟨g, cap, cur.setIfInBounds o u, rfl, hb, ?_, hn, hm, by simp [hs], ?_⟩⟩
    · show (w.heap.modify g _)[g]? = _
      simp [Array.getElem?_modify, hg]
    · simp [Array.toList_setIfInBounds, List.take_set, ht]
theorem BB.word {w : World} {B base g cap : Nat} {sv : Value} {ws : List (BitVec 64)} {n : Nat} (h : BB w B sv base (.slice (some ⟨g, 0, none⟩) n cap) ws) (hn : n = ws.length) {o : Nat} (ho : o < n) :
    ∃ y : BitVec 64, w.cell? ⟨g, o, none⟩ = some (U y) ∧ w.frozen? ⟨g, o, none⟩ = false ∧ ∀ v : BitVec 64, BB (w.setCell ⟨g, o, none⟩ (U v)) B sv base (.slice (some ⟨g, 0, none⟩) n cap) (ws.set o v) := by
  subst hn
  have hgB : g ≠ B := fun e => h.ne (by simp [Value.ownBlock, e])
  have hc := h.own.cellAt o (by omega)
  rw [List.getElem?_map, List.getElem?_eq_getElem ho] at hc
  refine ⟨ws[o], hc, h.own.frozenAt o, fun v => ?_⟩
  have e : ∀ j, (w.setCell ⟨g, o, none⟩ (U v)).cell? ⟨B, j, none⟩ = w.cell? ⟨B, j, none⟩ := fun j => World.cell?_of_block (a := ⟨B, j, none⟩) (Below.heap_setCell _ _ _ _ (fun e => hgB e.symm))
  refine ⟨by simpa [World.setCell] using h.lt, by rw [e]; exact h.c0, by rw [e]; exact h.c1, fun j => by rw [World.frozen?_setCell]; exact h.fz j, ?_, h.ne⟩
  have := own_setN h.own o (U v)
  rw [← List.map_set] at this
  rw [List.length_set]
  exact this

/-- While a reference is laid: the words as they were, or with it. -/
def LayS (w0 : World) (B : Nat) (sv : Value) (base g k cap : Nat) (ws : List (BitVec 64)) (p : Nat) (v : BitVec 64) (W : World) : Prop :=
  W.cell? ⟨B, 1, none⟩ = some (.slice (some ⟨g, 0, none⟩) k cap) ∧ (BB W B sv base (.slice (some ⟨g, 0, none⟩) k cap) ws ∨ BB W B sv base (.slice (some ⟨g, 0, none⟩) k cap) (ws.set p v)) ∧ Below base w0 W
theorem LayS.start {w0 : World} {B : Nat} {sv : Value} {base g k cap : Nat} {ws : List (BitVec 64)} {p : Nat} {v : BitVec 64} {W : World} (h : BB W B sv base (.slice (some ⟨g, 0, none⟩) k cap) ws) (hb : Below base w0 W) : LayS w0 B sv base g k cap ws p v W := ⟨h.c1, .inl h, hb⟩
theorem LayS.put {w0 : World} {B : Nat} {sv : Value} {base g k cap : Nat} {ws : List (BitVec 64)} {p : Nat} {v : BitVec 64} {W : World} (h : LayS w0 B sv base g k cap ws p v W) (hk : k = ws.length) (hp : p < k) (hg : base ≤ g) :
    ∃ y : BitVec 64, W.cell? ⟨g, p, none⟩ = some (U y) ∧ W.frozen? ⟨g, p, none⟩ = false ∧ BB (W.setCell ⟨g, p, none⟩ (U v)) B sv base (.slice (some ⟨g, 0, none⟩) k cap) (ws.set p v) ∧ Below base w0 (W.setCell ⟨g, p, none⟩ (U v)) := by
  obtain ⟨_, h1, h2⟩ := h
  have hb2 := h2.setCell (p := ⟨g, p, none⟩) hg (U v)
  rcases h1 with h1 | h1
  · obtain ⟨y, g1, g2, g3⟩ := h1.word hk hp
    exact ⟨y, g1, g2, g3 v, hb2⟩
  · obtain ⟨y, g1, g2, g3⟩ := h1.word (by rw [List.length_set]; exact hk) hp
    have := g3 v
    rw [List.set_set] at this
    exact ⟨y, g1, g2, this, hb2⟩

theorem bb_after {w w7 : World} {B : Nat} {sv wv : Value} {base : Nat} {ws : List (BitVec 64)} (h : BB w B sv base wv ws) (hg : w.grownBy w7 wv.ownBlock) (hne : wv.ownBlock ≠ some B) : w7.cell? ⟨B, 1, none⟩ = some wv ∧ w7.frozen? ⟨B, 1, none⟩ = false := by
  have hb := hg.block B h.lt (fun e => hne e.symm)
  exact ⟨(World.cell?_of_block (a := ⟨B, 1, none⟩) hb).trans h.c1, (World.frozen?_of_block (a := ⟨B, 1, none⟩) hb).trans (h.fz 1)⟩
theorem bb_store {w w7 : World} {B : Nat} {sv wv v' : Value} {base n : Nat} {ws ws' : List (BitVec 64)} (h : BB w B sv base wv ws) (hg : w.grownBy w7 wv.ownBlock) (ho : w7.ownsRow base 28 1 v' n (ws'.map U)) (hn : n = ws'.length) (hat : v'.ownBlock = wv.ownBlock ∨ v'.ownBlock = some w.heap.size) :
    BB (w7.setCell ⟨B, 1, none⟩ v') B sv base v' ws' := by
  subst hn
  have hb := hg.block B h.lt (fun e => h.ne e.symm)
  have hne : v'.ownBlock ≠ some B := by
    rcases hat with e | e
    · rw [e]; exact h.ne
    · rw [e]; intro e2; have := Option.some.inj e2; have := h.lt; omega
  have hc1 := (World.cell?_of_block (a := ⟨B, 1, none⟩) hb).trans h.c1
  refine ⟨?_, ?_, World.cell?_setCell_same w7 _ _ hc1, fun j => ?_, ?_, hne⟩
  · have := hg.size; have := h.lt; simp [World.setCell]; omega
  · rw [show (w7.setCell ⟨B, 1, none⟩ v').cell? ⟨B, 0, none⟩ = w7.cell? ⟨B, 0, none⟩ by simp [go_sem]]
    exact (World.cell?_of_block (a := ⟨B, 0, none⟩) hb).trans h.c0
  · rw [World.frozen?_setCell]; exact (World.frozen?_of_block (a := ⟨B, j, none⟩) hb).trans (h.fz j)
  · exact own_keep ho fun q e => Below.heap_setCell _ _ _ _ (by rintro rfl; exact hne e)

/-- The builder has gone on from w0 to w: its words are ws now; what is elsewhere stays. -/
structure Bld (w0 w : World) (B : Nat) (sv : Value) (base : Nat) (wv0 wv : Value) (ws : List (BitVec 64)) : Prop where
  bb : BB w B sv base wv ws
  below : Below base w0 w
  own : wv.ownBlock = wv0.ownBlock ∨ ∃ g, wv.ownBlock = some g ∧ w0.heap.size ≤ g
  keep : ∀ b, b < w0.heap.size → b ≠ B → wv0.ownBlock ≠ some b → w.heap[b]? = w0.heap[b]?
theorem Bld.refl {w : World} {B : Nat} {sv : Value} {base : Nat} {wv : Value} {ws : List (BitVec 64)} (h : BB w B sv base wv ws) : Bld w w B sv base wv wv ws := ⟨h, Below.refl _ _, .inl rfl, fun _ _ _ _ => rfl⟩
theorem Bld.trans {w0 w1 w2 : World} {B : Nat} {sv : Value} {base : Nat} {wv0 wv1 wv2 : Value} {ws1 ws2 : List (BitVec 64)} (h : Bld w0 w1 B sv base wv0 wv1 ws1) (k : Bld w1 w2 B sv base wv1 wv2 ws2) : Bld w0 w2 B sv base wv0 wv2 ws2 := by
  refine ⟨k.bb, h.below.trans k.below, ?_, fun b h1 h2 h3 => ?_⟩
  · rcases k.own with e | ⟨g, e, hg⟩
    · rw [e]; exact h.own
    · exact .inr ⟨g, e, Nat.le_trans h.below.size hg⟩
  · refine (k.keep b (Nat.lt_of_lt_of_le h1 h.below.size) h2 fun e => ?_).trans (h.keep b h1 h2 h3)
    rcases h.own with e1 | ⟨g, e1, hg⟩
    · exact h3 (e1 ▸ e)
    · rw [e1] at e
      have := Option.some.inj e
      omega
/-- What is laid behind all changes nothing of it. -/
theorem Bld.later {w0 w w' : World} {B : Nat} {sv : Value} {base : Nat} {wv0 wv : Value} {ws : List (BitVec 64)} (h : Bld w0 w B sv base wv0 wv ws) (hB : base ≤ w.heap.size) (hb : Below w.heap.size w w') : Bld w0 w' B sv base wv0 wv ws :=
  ⟨h.bb.below hb, h.below.trans (hb.mono hB), h.own, fun b h1 h2 h3 => (hb.block b (Nat.lt_of_lt_of_le h1 h.below.size)).trans (h.keep b h1 h2 h3)⟩
theorem Bld.before {w0 w1 w : World} {B : Nat} {sv : Value} {base : Nat} {wv0 wv : Value} {ws : List (BitVec 64)} (hb : Below w0.heap.size w0 w1) (hB : base ≤ w0.heap.size) (h : Bld w1 w B sv base wv0 wv ws) : Bld w0 w B sv base wv0 wv ws :=
  ⟨h.bb, (hb.mono hB).trans h.below, h.own.imp id (fun ⟨g, e, hg⟩ => ⟨g, e, Nat.le_trans hb.size hg⟩), fun b h1 h2 h3 => (h.keep b (Nat.lt_of_lt_of_le h1 hb.size) h2 h3).trans (hb.block b h1)⟩
theorem BB.base {w : World} {B : Nat} {sv : Value} {base : Nat} {wv : Value} {ws : List (BitVec 64)} (h : BB w B sv base wv ws) (hbB : base ≤ B) : base ≤ w.heap.size := Nat.le_trans hbB (Nat.le_of_lt h.lt)
/-- Where the words lie. -/
theorem BB.at_ {w : World} {B : Nat} {sv : Value} {base : Nat} {wv : Value} {ws : List (BitVec 64)} (h : BB w B sv base wv ws) (h0 : 0 < ws.length) : ∃ g cap, wv = .slice (some ⟨g, 0, none⟩) ws.length cap ∧ base ≤ g ∧ g < w.heap.size ∧ g ≠ B ∧ wv.ownBlock = some g := by
  rcases h.own.2 with ⟨_, e0⟩ | ⟨g, c, _, rfl, hgb, hg, _⟩
  · omega
  · exact ⟨g, c, rfl, hgb, (Array.getElem?_eq_some_iff.1 hg).1, fun e => h.ne (by simp [Value.ownBlock, e]), rfl⟩

def LayP (p n : Nat) (ys : List (BitVec 64)) (B : Nat) (sv : Value) (base : Nat) (wv : Value) (ws : List (BitVec 64)) (w0 : World) (e : Ending) (w' : World) : Prop :=
  e = .returned (.int .i64 (ws.length : Nat)) ∧ ∃ wv', Bld w0 w' B sv base wv wv' (layW p n ys ws)

set_option maxRecDepth 100000 in
set_option maxHeartbeats 8000000 in
theorem lay_yes (p n : Nat) (hn : 0 < n) (hn2 : n ≤ 1000) (ys : List (BitVec 64)) (hy : 0 < ys.length) (hy2 : ys.length ≤ 1000) (B base g cap k : Nat) (sv yv : Value) (ws : List (BitVec 64)) (w : World) (hk : k = ws.length) (hk2 : k ≤ 1000000) (hp : p < k)
    (h : BB w B sv base (.slice (some ⟨g, 0, none⟩) k cap) ws) (hbB : base ≤ B) (hyr : Row w 1 yv ys.length (ys.map U)) (hyb : ∀ b off m c, yv = .slice (some ⟨b, off, none⟩) m c → b ≠ g) :
    Calls Tryd.prog 36 #[.pointer (some ⟨B, 0, none⟩), .int .i64 p, .int .i64 n, yv] w (LayP p n ys B sv base (.slice (some ⟨g, 0, none⟩) k cap) ws w) := by
  obtain ⟨iU, hiU, hzU, hsU, hbU⟩ := info_parts (show (Tryd.prog.info? 28).map (fun i => (i.zero, i.size, i.bytes)) = some (some (.int .u64 0), 1, 8) by kernel_rfl)
  have c1 := h.c1
  have Hk := hid hk
  have hBB := hid (h : BB w B sv base (.slice (some ⟨g, 0, none⟩) k cap) ws)
  clear h hk
  have hkp : IntKind.i64.wrap ((k : Int) - (p : Int)) = (k : Int) - (p : Int) := IntWalk.i64_in _ (by omega)
  have hpk2 : (p : Int) < (k : Int) := by omega
  have hgb : base ≤ g := (own_blk hBB.out.own (g := g) rfl).2
  have hRef := hid fun W => ref_any ((k : Int) - (p : Int)) (n : Int) W
  have hnd : decide ((0 : Int) < (n : Int)) = true := decide_eq_true (by omega)
  go_enter Tryd.func36, Tryd.ntmps36
  go_wp2_with fail
  refine wp_region_held_drew (S := (fun W => W.cell? ⟨B, 1, none⟩ = some (.slice (some ⟨g, 0, none⟩) k cap) ∧ (BB W B sv base (.slice (some ⟨g, 0, none⟩) k cap) ws ∨ BB W B sv base (.slice (some ⟨g, 0, none⟩) k cap) (ws.set p (refV ((k : Int) - p) n))) ∧ Below base w W)) (by kernel_rfl) ?_ (fun hHeld => ?_)
  · exact LayS.start (hBB.out.below (below_drewN _ _ 1)) (below_drewN _ _ 1)
  refine wpAnyH_take (i := 0) (oi := { dst := some 17, op := Op.move (Operand.tmp 0), type := 57, pos := "build.go:30", after := #[], guard := none }) (v := ?vl0) rfl (by kernel_rfl) (by kernel_rfl) (by kernel_rfl) (fun _ _ _ h => h) (Or.inl ⟨by rfl, ?hyl0⟩) (by assumption) ?restl0
  case hyl0 => first | (intro w hSw; (try dsimp only at hSw); go_simp; done) | (intro w hSw; (try dsimp only at hSw); go_simp; with_reducible rfl)
  try simp only [Act.put, List.setIfInBounds_toArray, List.set_cons_zero, List.set_cons_succ]
  refine wpAnyH_take (i := 1) (oi := { dst := some 18, op := Op.nilCheck (Operand.tmp 17), type := 0, pos := "build.go:30", after := #[{ on := 0, ground := Ground.data }], guard := none }) (v := ?vl1) rfl (by kernel_rfl) (by kernel_rfl) (by kernel_rfl) (fun _ _ _ h => h) (Or.inl ⟨by rfl, ?hyl1⟩) (by assumption) ?restl1
  case hyl1 => first | (intro w hSw; (try dsimp only at hSw); go_simp; done) | (intro w hSw; (try dsimp only at hSw); go_simp; with_reducible rfl)
  try simp only [Act.put, List.setIfInBounds_toArray, List.set_cons_zero, List.set_cons_succ]
  refine wpAnyH_take (i := 2) (oi := { dst := some 19, op := Op.fieldAddr 59 (Operand.tmp 18) 1, type := 0, pos := "build.go:30", after := #[{ on := 1, ground := Ground.data }], guard := none }) (v := ?vl2) rfl (by kernel_rfl) (by kernel_rfl) (by kernel_rfl) (fun _ _ _ h => h) (Or.inl ⟨by rfl, ?hyl2⟩) (by assumption) ?restl2
  case hyl2 => first | (intro w hSw; (try dsimp only at hSw); go_simp; done) | (intro w hSw; (try dsimp only at hSw); go_simp; with_reducible rfl)
  try simp only [Act.put, List.setIfInBounds_toArray, List.set_cons_zero, List.set_cons_succ]
  refine wpAnyH_take (i := 3) (oi := { dst := some 20, op := Op.load 29 (Operand.tmp 19), type := 29, pos := "build.go:30", after := #[{ on := 2, ground := Ground.data }], guard := none }) (v := ?vl3) rfl (by kernel_rfl) (by kernel_rfl) (by kernel_rfl) (fun _ _ _ h => h) (Or.inl ⟨by rfl, ?hyl3⟩) (by assumption) ?restl3
  case hyl3 => first | (intro w hSw; (try dsimp only at hSw); go_simp; done) | (intro w hSw; (try dsimp only at hSw); go_simp; with_reducible rfl)
  try simp only [Act.put, List.setIfInBounds_toArray, List.set_cons_zero, List.set_cons_succ]
  refine wpAnyH_take (i := 4) (oi := { dst := some 21, op := Op.move (Operand.tmp 1), type := 3, pos := "build.go:30", after := #[], guard := none }) (v := ?vl4) rfl (by kernel_rfl) (by kernel_rfl) (by kernel_rfl) (fun _ _ _ h => h) (Or.inl ⟨by rfl, ?hyl4⟩) (by assumption) ?restl4
  case hyl4 => first | (intro w hSw; (try dsimp only at hSw); go_simp; done) | (intro w hSw; (try dsimp only at hSw); go_simp; with_reducible rfl)
  try simp only [Act.put, List.setIfInBounds_toArray, List.set_cons_zero, List.set_cons_succ]
  refine wpAnyH_take (i := 5) (oi := { dst := some 22, op := Op.move (Operand.tmp 9), type := 3, pos := "build.go:30", after := #[], guard := none }) (v := ?vl5) rfl (by kernel_rfl) (by kernel_rfl) (by kernel_rfl) (fun _ _ _ h => h) (Or.inl ⟨by rfl, ?hyl5⟩) (by assumption) ?restl5
  case hyl5 => first | (intro w hSw; (try dsimp only at hSw); go_simp; done) | (intro w hSw; (try dsimp only at hSw); go_simp; with_reducible rfl)
  try simp only [Act.put, List.setIfInBounds_toArray, List.set_cons_zero, List.set_cons_succ]
  refine wpAnyH_take (i := 6) (oi := { dst := some 23, op := Op.move (Operand.tmp 1), type := 3, pos := "build.go:30", after := #[], guard := none }) (v := ?vl6) rfl (by kernel_rfl) (by kernel_rfl) (by kernel_rfl) (fun _ _ _ h => h) (Or.inl ⟨by rfl, ?hyl6⟩) (by assumption) ?restl6
  case hyl6 => first | (intro w hSw; (try dsimp only at hSw); go_simp; done) | (intro w hSw; (try dsimp only at hSw); go_simp; with_reducible rfl)
  try simp only [Act.put, List.setIfInBounds_toArray, List.set_cons_zero, List.set_cons_succ]
  refine wpAnyH_take (i := 7) (oi := { dst := some 24, op := Op.binOp BinOp.sub 3 (Operand.tmp 22) (Operand.tmp 23) 3, type := 3, pos := "build.go:30", after := #[{ on := 5, ground := Ground.data }, { on := 6, ground := Ground.data }], guard := none }) (v := ?vl7) rfl (by kernel_rfl) (by kernel_rfl) (by kernel_rfl) (fun _ _ _ h => h) (Or.inl ⟨by rfl, ?hyl7⟩) (by assumption) ?restl7
  case hyl7 => first | (intro w hSw; (try dsimp only at hSw); go_simp; done) | (intro w hSw; (try dsimp only at hSw); go_simp; with_reducible rfl)
  try simp only [Act.put, List.setIfInBounds_toArray, List.set_cons_zero, List.set_cons_succ]
  refine wpAnyH_take (i := 8) (oi := { dst := some 25, op := Op.move (Operand.tmp 2), type := 3, pos := "build.go:30", after := #[], guard := none }) (v := ?vl8) rfl (by kernel_rfl) (by kernel_rfl) (by kernel_rfl) (fun _ _ _ h => h) (Or.inl ⟨by rfl, ?hyl8⟩) (by assumption) ?restl8
  case hyl8 => first | (intro w hSw; (try dsimp only at hSw); go_simp; done) | (intro w hSw; (try dsimp only at hSw); go_simp; with_reducible rfl)
  try simp only [Act.put, List.setIfInBounds_toArray, List.set_cons_zero, List.set_cons_succ]
  refine wpAnyH_ready (rs := [9]) (by kernel_rfl) (by simp) ?_
  refine AllReadyH.cons (o := { dst := some 26, op := Op.call { callee := Callee.value (Operand.func 19), args := #[Operand.tmp 24, Operand.tmp 25], argTypes := #[3, 3] }, type := 28, pos := "build.go:30", after := #[{ on := 7, ground := Ground.data }, { on := 8, ground := Ground.data }], guard := none }) rfl (fun K hK => ?_) AllReadyH.nil
  go_simp
  ((refine (hRef.out _).mono ?_); rintro r5 w10 ⟨rfl, rfl⟩)
  refine hK.out _ _ ?_ (fun hHeld => ?_)
  · exact hHeld
  clear hK K
  try simp only [Act.put, List.setIfInBounds_toArray, List.set_cons_zero, List.set_cons_succ]
  refine wpAnyH_take (i := 10) (oi := { dst := some 27, op := Op.indexAddr 29 (Operand.tmp 20) (Operand.tmp 21), type := 0, pos := "build.go:30", after := #[{ on := 3, ground := Ground.data }, { on := 4, ground := Ground.data }, { on := 0, ground := Ground.phase }, { on := 1, ground := Ground.phase }, { on := 2, ground := Ground.phase }, { on := 3, ground := Ground.phase }, { on := 4, ground := Ground.phase }, { on := 5, ground := Ground.phase }, { on := 6, ground := Ground.phase }, { on := 7, ground := Ground.phase }, { on := 8, ground := Ground.phase }, { on := 9, ground := Ground.phase }], guard := none }) (v := ?vl10) rfl (by kernel_rfl) (by kernel_rfl) (by kernel_rfl) (fun _ _ _ h => h) (Or.inl ⟨by rfl, ?hyl10⟩) (by assumption) ?restl10
  case hyl10 => first | (intro w hSw; (try dsimp only at hSw); go_simp; done) | (intro w hSw; (try dsimp only at hSw); go_simp; with_reducible rfl)
  try simp only [Act.put, List.setIfInBounds_toArray, List.set_cons_zero, List.set_cons_succ]
  refine wpAnyH_ready (rs := [11]) (by kernel_rfl) (by simp) ?_
  refine AllReadyH.cons (o := { dst := none, op := Op.store 28 (Operand.tmp 27) (Operand.tmp 26), type := 0, pos := "build.go:30", after := #[{ on := 10, ground := Ground.data }, { on := 9, ground := Ground.data }, { on := 9, ground := Ground.chain }, { on := 0, ground := Ground.phase }, { on := 1, ground := Ground.phase }, { on := 2, ground := Ground.phase }, { on := 3, ground := Ground.phase }, { on := 4, ground := Ground.phase }, { on := 5, ground := Ground.phase }, { on := 6, ground := Ground.phase }, { on := 7, ground := Ground.phase }, { on := 8, ground := Ground.phase }, { on := 9, ground := Ground.phase }], guard := none }) rfl (fun K hK => ?_) AllReadyH.nil
  obtain ⟨y1, d0, d1, d2, d3⟩ := LayS.put (v := (refV ((k : Int) - p) n)) hHeld Hk.out hp hgb
  go_simp
  refine hK.out _ _ ?_ (fun hHeld => ?_)
  · exact ⟨d2.c1, .inr d2, d3⟩
  clear hK K
  try simp only [Act.put, List.setIfInBounds_toArray, List.set_cons_zero, List.set_cons_succ]
  refine wpAnyH_done (by kernel_rfl) ?_ _
  have hB3 : BB (w.setCell ⟨g, p, none⟩ (U (refV ((k : Int) - p) n))).drew B sv base (.slice (some ⟨g, 0, none⟩) k cap) (ws.set p (refV ((k : Int) - p) n)) := d2
  have hb3 : Below base w (w.setCell ⟨g, p, none⟩ (U (refV ((k : Int) - p) n))).drew := d3
  have hkp3 : ∀ b, b ≠ g → (w.setCell ⟨g, p, none⟩ (U (refV ((k : Int) - p) n))).drew.heap[b]? = w.heap[b]? := fun b hb => Below.heap_setCell w ⟨g, p, none⟩ (U (refV ((k : Int) - p) n)) b hb
  have hsz3 : w.heap.size = (w.setCell ⟨g, p, none⟩ (U (refV ((k : Int) - p) n))).drew.heap.size := by show _ = (w.setCell ⟨g, p, none⟩ (U (refV ((k : Int) - p) n))).heap.size; simp [World.setCell]
  have Hkp3 := hid (And.intro hkp3 hsz3)
  clear d0 d1 d2 d3 hHeld c1 hkp3 hsz3
  generalize (w.setCell ⟨g, p, none⟩ (U (refV ((k : Int) - p) n))).drew = w3 at *
  obtain ⟨by_, offy, capy, hye, hy5, hy6, hy7, hyc⟩ := hyr.cons (by omega)
  subst hye
  have hnews : ∀ j u, (ys.map U)[j]? = some u → w3.cell? ((⟨by_, offy, none⟩ : Addr).add j) = some u := fun j u e => by
    have hj : j < ys.length := by have := (List.getElem?_eq_some_iff.1 e).1; simpa using this
    rw [Addr.add_lit, World.cell?_of_block (a := ⟨by_, offy + j, none⟩) (Hkp3.out.1 by_ (hyb _ _ _ _ rfl)), hyc j (by omega)]; exact e
  have hsl : (ws.set p (refV ((k : Int) - p) n)).length = k := by rw [List.length_set]; exact Hk.out.symm
  have Hsl := hid hsl
  have hownb := hB3.own
  rw [hsl] at hownb
  have HB3 := hid hB3
  have c1 := hB3.c1
  obtain ⟨m, hm⟩ : ∃ m, m = ys.length := ⟨_, rfl⟩
  have Hm := hid hm
  rw [← hm] at hy hy2 ⊢
  have hnl : (ys.map U).length = m * 1 := by rw [List.length_map, hm]; omega
  have hone : ∀ u ∈ ys.map U, u.oneCell' = true := fun u hu => by obtain ⟨x, _, rfl⟩ := List.mem_map.1 hu; rfl
  have hbs : base ≤ w3.heap.size := Nat.le_trans hbB (Nat.le_of_lt hB3.lt)
  have hne : (Value.slice (some ⟨g, 0, none⟩) k cap).ownBlock ≠ some B := hB3.ne
  clear hB3 hm hyr hyc hsl
  generalize hw3 : ws.set p (refV ((k : Int) - p) n) = ws3 at *
  have Hw3 := hid hw3
  clear hw3
  go_wp2_with (at_builtin; go_must (refine wpList_append_own_at _ rfl (.tmp 32) (.tmp 33) 29 rfl base 28 iU _ 1 8 Tryd.underlying29 hiU hzU hsU hbU rfl (by omega) _ k _ rfl hownb ⟨by_, offy, none⟩ m capy (ys.map U) rfl hnl hnews hone (by unfold maxLen; omega) (by omega) hbs ?_); intro v7 w7 ho7 hg7 _ hat7; obtain ⟨y1, yf1⟩ := bb_after HB3.out hg7 hne; obtain ⟨a7, c7, rfl⟩ := own_shape ho7)
  have hfin := bb_store (ws' := ws3 ++ ys) HB3.out hg7 (by rw [List.map_append]; exact ho7) (by rw [List.length_append, Hsl.out, Hm.out]) hat7
  have hg7b : Below base w3 w7 := (Below.refl base w3).grown hg7 hbs fun q e => (own_blk hownb e).2
  have hs7 := hg7.size
  go_ret
  refine ⟨by rw [← Hk.out]; rfl, _, ⟨by rw [layW, if_neg (by omega), ← Hk.out, Hw3.out]; exact hfin, hb3.trans (hg7b.setCell (p := ⟨B, 1, none⟩) hbB _), ?_, fun b h1 h2 h3 => ?_⟩⟩
  · rcases hat7 with e | e
    · exact .inl e
    · exact .inr ⟨_, e, by rw [Hkp3.out.2]; exact Nat.le_refl _⟩
  · have h4 : b ≠ g := fun e => h3 (by rw [e]; rfl)
    rw [Below.heap_setCell _ _ _ _ h2, hg7.block b (by rw [← Hkp3.out.2]; exact h1) (fun e => h4 (Option.some.inj (show some b = some g from e))), Hkp3.out.1 b h4]

set_option maxRecDepth 100000 in
set_option maxHeartbeats 8000000 in
theorem lay_no (p : Nat) (yv : Value) (ys : List (BitVec 64)) (hyv : ∃ a m c, yv = .slice a m c) (B base : Nat) (sv wv : Value) (ws : List (BitVec 64)) (w : World) (hk2 : ws.length ≤ 1000000) (h : BB w B sv base wv ws) :
    Calls Tryd.prog 36 #[.pointer (some ⟨B, 0, none⟩), .int .i64 p, .int .i64 0, yv] w (LayP p 0 ys B sv base wv ws w) := by
  obtain ⟨a0, m0, c0, rfl⟩ := hyv
  obtain ⟨wa, wc, rfl⟩ := own_shape h.own
  have c1 := h.c1
  have HB := hid (Bld.refl h)
  obtain ⟨k, hk⟩ : ∃ k, k = ws.length := ⟨_, rfl⟩
  have Hk := hid hk
  rw [← hk] at hk2 c1 HB ⊢
  clear h hk
  go_enter Tryd.func36, Tryd.ntmps36
  go_wp2_with fail
  go_ret
  exact ⟨by rw [← Hk.out]; rfl, _, by rw [layW, if_pos rfl]; exact HB.out⟩

/-- Words laid behind all, or none. -/
theorem lay_any (p n : Nat) (hn2 : n ≤ 1000) (ys : List (BitVec 64)) (hy : 0 < n → 0 < ys.length) (hy2 : ys.length ≤ 1000) (B base : Nat) (sv yv wv : Value) (ws : List (BitVec 64)) (w : World) (hk2 : ws.length ≤ 1000000) (hp : p < ws.length)
    (h : BB w B sv base wv ws) (hbB : base ≤ B) (hyr : Row w 1 yv ys.length (ys.map U)) (hyb : 0 < n → ∀ b off m c, yv = .slice (some ⟨b, off, none⟩) m c → wv.ownBlock ≠ some b) :
    Calls Tryd.prog 36 #[.pointer (some ⟨B, 0, none⟩), .int .i64 p, .int .i64 n, yv] w (LayP p n ys B sv base wv ws w) := by
  by_cases h0 : n = 0
  · subst h0
    obtain ⟨a, c, e, _⟩ := hyr.open
    exact lay_no p yv ys ⟨a, _, c, e⟩ B base sv wv ws w hk2 h
  · obtain ⟨g, cap, rfl, h1, h2, h3, h4⟩ := h.at_ (by omega)
    exact lay_yes p n (by omega) hn2 ys (hy (by omega)) hy2 B base g cap ws.length sv yv ws w rfl hk2 hp h hbB hyr (fun b off m c e e2 => hyb (by omega) b off m c e (by rw [h4, e2]))
end SBLayG

section SBFieldG
open Go.RowKit

/-- While a word is laid. -/
def PutS (w0 : World) (B : Nat) (sv : Value) (base g k cap : Nat) (ws : List (BitVec 64)) (p : Nat) (v : BitVec 64) (D : Nat) (W : World) : Prop :=
  W.cell? ⟨B, 1, none⟩ = some (.slice (some ⟨g, 0, none⟩) k cap) ∧ W.cell? ⟨D, 0, none⟩ = some (U v) ∧ (BB W B sv base (.slice (some ⟨g, 0, none⟩) k cap) ws ∨ BB W B sv base (.slice (some ⟨g, 0, none⟩) k cap) (ws.set p v)) ∧ Below base w0 W

theorem PutS.start {w0 : World} {B : Nat} {sv : Value} {base g k cap : Nat} {ws : List (BitVec 64)} {p : Nat} {v : BitVec 64} {D : Nat} {W : World} (h : BB W B sv base (.slice (some ⟨g, 0, none⟩) k cap) ws) (hD : W.cell? ⟨D, 0, none⟩ = some (U v)) (hb : Below base w0 W) : PutS w0 B sv base g k cap ws p v D W := ⟨h.c1, hD, .inl h, hb⟩
theorem PutS.put {w0 : World} {B : Nat} {sv : Value} {base g k cap : Nat} {ws : List (BitVec 64)} {p : Nat} {v : BitVec 64} {D : Nat} {W : World} (h : PutS w0 B sv base g k cap ws p v D W) (hk : k = ws.length) (hp : p < k) (hg : base ≤ g) :
    ∃ y : BitVec 64, W.cell? ⟨g, p, none⟩ = some (U y) ∧ W.frozen? ⟨g, p, none⟩ = false ∧ BB (W.setCell ⟨g, p, none⟩ (U v)) B sv base (.slice (some ⟨g, 0, none⟩) k cap) (ws.set p v) ∧ Below base w0 (W.setCell ⟨g, p, none⟩ (U v)) :=
  LayS.put (v := v) ⟨h.1, h.2.2⟩ hk hp hg

set_option maxRecDepth 100000 in
set_option maxHeartbeats 8000000 in
theorem bfield_num (x : BitVec 64) (s : ByteArray) (c2 c3 : Value) (t : Int) (p B base g cap k : Nat) (sv : Value) (ws : List (BitVec 64)) (w : World) (hk : k = ws.length) (hk2 : k ≤ 1000000) (hp : p < k) (hbB : base ≤ B)
    (h : BB w B sv base (.slice (some ⟨g, 0, none⟩) k cap) ws) :
    Calls Tryd.prog 18 #[.pointer (some ⟨B, 0, none⟩), .int .i64 1, .int .i64 t, .agg #[U x, .string s, c2, c3], .int .i64 p] w fun e w' => e = .returned (.tuple #[]) ∧ BB w' B sv base (.slice (some ⟨g, 0, none⟩) k cap) (ws.set p x) ∧ Below base w w' ∧ (∀ b, b < w.heap.size → b ≠ B → b ≠ g → w'.heap[b]? = w.heap[b]?) := by
  obtain ⟨w1, hw1, hb1, hz1, hK⟩ := TB.make w (U x) (.string s) c2 c3 32
  have h1 := hid (h.below hb1)
  have Hk := hid hk
  have hgb : base ≤ g := (own_blk h.own (g := g) rfl).2
  have hlt := h.lt
  have hbw : Below base w w1 := hb1.mono (by omega)
  have hgD : g ≠ w.heap.size := by have := (own_blk h.own (g := g) rfl).1.lt; omega
  clear h hk hz1
  have c1 := h1.out.c1
  have k0 := hK.c0
  have hpk2 : (p : Int) < (k : Int) := by omega
  go_enter Tryd.func18, Tryd.ntmps18
  go_wp2_with fail
  clear hw1
  refine wp_region_held_drew (S := (fun W => W.cell? ⟨B, 1, none⟩ = some (.slice (some ⟨g, 0, none⟩) k cap) ∧ W.cell? ⟨w.heap.size, 0, none⟩ = some (U x) ∧ (BB W B sv base (.slice (some ⟨g, 0, none⟩) k cap) ws ∨ BB W B sv base (.slice (some ⟨g, 0, none⟩) k cap) (ws.set p x)) ∧ Below base w W)) (by kernel_rfl) ?_ (fun hHeld => ?_)
  · exact PutS.start (h1.out.below (below_drewN _ _ 1)) k0 (hbw.trans (below_drewN _ _ 1))
  refine wpAnyH_take (i := 0) (oi := { dst := some 25, op := Op.move (Operand.tmp 0), type := 57, pos := "build.go:47", after := #[], guard := none }) (v := ?vf0) rfl (by kernel_rfl) (by kernel_rfl) (by kernel_rfl) (fun _ _ _ h => h) (Or.inl ⟨by rfl, ?hyf0⟩) (by assumption) ?restf0
  case hyf0 => first | (intro w hSw; (try dsimp only at hSw); go_simp; done) | (intro w hSw; (try dsimp only at hSw); go_simp; with_reducible rfl)
  try simp only [Act.put, List.setIfInBounds_toArray, List.set_cons_zero, List.set_cons_succ]
  refine wpAnyH_take (i := 1) (oi := { dst := some 26, op := Op.nilCheck (Operand.tmp 25), type := 0, pos := "build.go:47", after := #[{ on := 0, ground := Ground.data }], guard := none }) (v := ?vf1) rfl (by kernel_rfl) (by kernel_rfl) (by kernel_rfl) (fun _ _ _ h => h) (Or.inl ⟨by rfl, ?hyf1⟩) (by assumption) ?restf1
  case hyf1 => first | (intro w hSw; (try dsimp only at hSw); go_simp; done) | (intro w hSw; (try dsimp only at hSw); go_simp; with_reducible rfl)
  try simp only [Act.put, List.setIfInBounds_toArray, List.set_cons_zero, List.set_cons_succ]
  refine wpAnyH_take (i := 2) (oi := { dst := some 27, op := Op.fieldAddr 59 (Operand.tmp 26) 1, type := 0, pos := "build.go:47", after := #[{ on := 1, ground := Ground.data }], guard := none }) (v := ?vf2) rfl (by kernel_rfl) (by kernel_rfl) (by kernel_rfl) (fun _ _ _ h => h) (Or.inl ⟨by rfl, ?hyf2⟩) (by assumption) ?restf2
  case hyf2 => first | (intro w hSw; (try dsimp only at hSw); go_simp; done) | (intro w hSw; (try dsimp only at hSw); go_simp; with_reducible rfl)
  try simp only [Act.put, List.setIfInBounds_toArray, List.set_cons_zero, List.set_cons_succ]
  refine wpAnyH_take (i := 3) (oi := { dst := some 28, op := Op.load 29 (Operand.tmp 27), type := 29, pos := "build.go:47", after := #[{ on := 2, ground := Ground.data }], guard := none }) (v := ?vf3) rfl (by kernel_rfl) (by kernel_rfl) (by kernel_rfl) (fun _ _ _ h => h) (Or.inl ⟨by rfl, ?hyf3⟩) (by assumption) ?restf3
  case hyf3 => first | (intro w hSw; (try dsimp only at hSw); go_simp; done) | (intro w hSw; (try dsimp only at hSw); go_simp; with_reducible rfl)
  try simp only [Act.put, List.setIfInBounds_toArray, List.set_cons_zero, List.set_cons_succ]
  refine wpAnyH_take (i := 4) (oi := { dst := some 29, op := Op.move (Operand.tmp 4), type := 3, pos := "build.go:47", after := #[], guard := none }) (v := ?vf4) rfl (by kernel_rfl) (by kernel_rfl) (by kernel_rfl) (fun _ _ _ h => h) (Or.inl ⟨by rfl, ?hyf4⟩) (by assumption) ?restf4
  case hyf4 => first | (intro w hSw; (try dsimp only at hSw); go_simp; done) | (intro w hSw; (try dsimp only at hSw); go_simp; with_reducible rfl)
  try simp only [Act.put, List.setIfInBounds_toArray, List.set_cons_zero, List.set_cons_succ]
  refine wpAnyH_take (i := 5) (oi := { dst := some 30, op := Op.fieldAddr 32 (Operand.tmp 8) 0, type := 0, pos := "build.go:47", after := #[], guard := none }) (v := ?vf5) rfl (by kernel_rfl) (by kernel_rfl) (by kernel_rfl) (fun _ _ _ h => h) (Or.inl ⟨by rfl, ?hyf5⟩) (by assumption) ?restf5
  case hyf5 => first | (intro w hSw; (try dsimp only at hSw); go_simp; done) | (intro w hSw; (try dsimp only at hSw); go_simp; with_reducible rfl)
  try simp only [Act.put, List.setIfInBounds_toArray, List.set_cons_zero, List.set_cons_succ]
  refine wpAnyH_take (i := 6) (oi := { dst := some 31, op := Op.load 28 (Operand.tmp 30), type := 28, pos := "build.go:47", after := #[{ on := 5, ground := Ground.data }], guard := none }) (v := ?vf6) rfl (by kernel_rfl) (by kernel_rfl) (by kernel_rfl) (fun _ _ _ h => h) (Or.inl ⟨by rfl, ?hyf6⟩) (by assumption) ?restf6
  case hyf6 => first | (intro w hSw; (try dsimp only at hSw); go_simp; done) | (intro w hSw; (try dsimp only at hSw); go_simp; with_reducible rfl)
  try simp only [Act.put, List.setIfInBounds_toArray, List.set_cons_zero, List.set_cons_succ]
  refine wpAnyH_take (i := 7) (oi := { dst := some 32, op := Op.indexAddr 29 (Operand.tmp 28) (Operand.tmp 29), type := 0, pos := "build.go:47", after := #[{ on := 3, ground := Ground.data }, { on := 4, ground := Ground.data }, { on := 0, ground := Ground.phase }, { on := 1, ground := Ground.phase }, { on := 2, ground := Ground.phase }, { on := 3, ground := Ground.phase }, { on := 4, ground := Ground.phase }, { on := 5, ground := Ground.phase }, { on := 6, ground := Ground.phase }], guard := none }) (v := ?vf7) rfl (by kernel_rfl) (by kernel_rfl) (by kernel_rfl) (fun _ _ _ h => h) (Or.inl ⟨by rfl, ?hyf7⟩) (by assumption) ?restf7
  case hyf7 => first | (intro w hSw; (try dsimp only at hSw); go_simp; done) | (intro w hSw; (try dsimp only at hSw); go_simp; with_reducible rfl)
  try simp only [Act.put, List.setIfInBounds_toArray, List.set_cons_zero, List.set_cons_succ]
  refine wpAnyH_ready (rs := [8]) (by kernel_rfl) (by simp) ?_
  refine AllReadyH.cons (o := { dst := none, op := Op.store 28 (Operand.tmp 32) (Operand.tmp 31), type := 0, pos := "build.go:47", after := #[{ on := 7, ground := Ground.data }, { on := 6, ground := Ground.data }, { on := 0, ground := Ground.phase }, { on := 1, ground := Ground.phase }, { on := 2, ground := Ground.phase }, { on := 3, ground := Ground.phase }, { on := 4, ground := Ground.phase }, { on := 5, ground := Ground.phase }, { on := 6, ground := Ground.phase }], guard := none }) rfl (fun K hK => ?_) AllReadyH.nil
  obtain ⟨y1, d0, d1, d2, d3⟩ := PutS.put hHeld Hk.out hp hgb
  go_simp
  refine hK.out _ _ ?_ (fun hHeld => ?_)
  · exact ⟨d2.c1, (World.cell?_setCell_other _ _ _ _ (by simp [hgD])).trans hHeld.2.1, .inr d2, d3⟩
  clear hK K
  try simp only [Act.put, List.setIfInBounds_toArray, List.set_cons_zero, List.set_cons_succ]
  refine wpAnyH_done (by kernel_rfl) ?_ _
  have hB3 : BB (w1.setCell ⟨g, p, none⟩ (U x)).drew B sv base (.slice (some ⟨g, 0, none⟩) k cap) (ws.set p x) := d2
  have hb3 : Below base w (w1.setCell ⟨g, p, none⟩ (U x)).drew := d3
  clear d0 d1 d2 d3 hHeld c1 k0
  go_wp2_with fail
  go_returns
  exact ⟨rfl, hB3, hb3, fun b h1 h2 h3 => (Below.heap_setCell w1 ⟨g, p, none⟩ (U x) b h3).trans (hb1.block b h1)⟩


/-- What a field, and what a struct's fields, come to. -/
def FieldP (w : World) (B : Nat) (sv : Value) (base : Nat) (wv : Value) (ws : List (BitVec 64)) (e : Ending) (w' : World) : Prop := e = .returned (.tuple #[]) ∧ ∃ wv', Bld w w' B sv base wv wv' ws
def FieldC (s : Schema) (sv : Value) (d left : Nat) : Prop := ∀ (kd ty : Int) (k : Node (St d)) (c2 c3 : Value) (p B base : Nat) (wv : Value) (ws : List (BitVec 64)) (w0 w : World), Sch w0 sv s → (4 ≤ kd → 0 < (typeL s ty).length) → hasB kd k = true → (∀ x ∈ k.kids, codeT s d left ty x = 0) → RdN (RdS d) w0 [U k.num, .string k.bytes, c2, c3] k →
    w0.heap.size ≤ base → Below base w0 w → base ≤ B → BB w B sv base wv ws → p < ws.length → ws.length + fszT d k ≤ 1000 →
    Calls Tryd.prog 18 #[.pointer (some ⟨B, 0, none⟩), .int .i64 kd, .int .i64 ty, .agg #[U k.num, .string k.bytes, c2, c3], .int .i64 p] w (FieldP w B sv base wv (fieldW (typeL s ty).length (bldW s d ty) kd k p ws))
def FieldsC (s : Schema) (sv : Value) (d left : Nat) : Prop := ∀ (t : Int) (v : St d) (cs : List Value) (p B base : Nat) (wv : Value) (ws : List (BitVec 64)) (w0 w : World), Sch w0 sv s → codeT s d left t v = 0 → RdS d w0 cs v →
    w0.heap.size ≤ base → Below base w0 w → base ≤ B → BB w B sv base wv ws → p + nkT d v ≤ ws.length → ws.length + belowT d v ≤ 1000 →
    Calls Tryd.prog 17 #[.pointer (some ⟨B, 0, none⟩), .int .i64 t, .agg cs.toArray, .func (.func 18) #[.pointer (some ⟨B, 0, none⟩)] #[], .int .i64 p] w (FieldP w B sv base wv (bldW s d t v ws p))

theorem BB.own_lt {w : World} {B : Nat} {sv : Value} {base : Nat} {wv : Value} {ws : List (BitVec 64)} (h : BB w B sv base wv ws) {g : Nat} (hg : wv.ownBlock = some g) : g < w.heap.size ∧ base ≤ g := ⟨(own_blk h.own hg).1.lt, (own_blk h.own hg).2⟩

/-- make([]T, n), at the operation, in a region. -/
theorem wp_make_full {P : Program} (w : World) {o : Oper} {a : Act} {K : Act → World → Prop} {Q : Exit → Act → World → Prop} (l c : Operand) (t : TypeId) (hop : o.op = Op.makeSlice t l c)
    (base : Nat) (e : TypeId) (i : TypeInfo) (z : Value) (size : Nat) (h1 : P.underlying t = some (.slice e)) (h2 : P.info? e = some i) (h3 : i.zero = some z) (h4 : i.size = size)
    (kl kc : IntKind) (L C : Int) (n : Nat) (hl : a.eval l = .int kl L) (hc : a.eval c = .int kc C) (hL : L = (n : Int)) (hC : C = (n : Int)) (b2 : i.bytes * n ≤ 281474976710656) (b3 : n ≤ maxLen) (b4 : base ≤ w.heap.size)
    (hK : ∀ w', w'.ownsRow base e size (.slice (some ⟨w.heap.size, 0, none⟩) n n) n (madeCells z.cells (n * size)).toList → w.grownBy w' none → K (a.put o.dst (.slice (some ⟨w.heap.size, 0, none⟩) n n)) w') : o.wp P a w K Q := by
  obtain ⟨w', hrun, r1, r2⟩ := run_make_full (P := P) w base t e i z size h1 h2 h3 h4 kl kc n b2 b3 b4
  subst hL
  subst hC
  unfold Oper.wp
  simp [execOp, hop, hl, hc, hrun, Result.andThen]
  exact hK _ r1 r2

theorem fieldg_num (s : Schema) (sv : Value) (d left : Nat) (ty : Int) (k : Node (St d)) (c2 c3 : Value) (p B base : Nat) (wv : Value) (ws : List (BitVec 64)) (w : World) (hbB : base ≤ B) (hBB : BB w B sv base wv ws) (hp : p < ws.length) (hlen : ws.length + fszT d k ≤ 1000) :
    Calls Tryd.prog 18 #[.pointer (some ⟨B, 0, none⟩), .int .i64 1, .int .i64 ty, .agg #[U k.num, .string k.bytes, c2, c3], .int .i64 p] w (FieldP w B sv base wv (fieldW (typeL s ty).length (bldW s d ty) 1 k p ws)) := by
  obtain ⟨g, cap, rfl, h1, h2, h3, h4⟩ := hBB.at_ (by omega)
  refine (bfield_num k.num k.bytes c2 c3 ty p B base g cap ws.length sv ws w rfl (by omega) hp hbB hBB).mono ?_
  rintro e w' ⟨rfl, hB, hb, hkp⟩
  exact ⟨rfl, _, by unfold fieldW; rw [if_pos rfl]; exact ⟨hB, hb, .inl rfl, fun b a1 a2 a3 => hkp b a1 a2 (fun e => a3 (by rw [h4, e]))⟩⟩

set_option maxRecDepth 100000 in
set_option maxHeartbeats 8000000 in
theorem fieldg_nums (s : Schema) (sv : Value) (d left : Nat) (ty : Int) (k : Node (St d)) (c2 c3 : Value) (p B base : Nat) (wv : Value) (ws : List (BitVec 64)) (w0 w : World) (hb : hasB 3 k = true) (hrd : RdN (RdS d) w0 [U k.num, .string k.bytes, c2, c3] k) (h0 : w0.heap.size ≤ base) (hb0 : Below base w0 w) (hbB : base ≤ B) (hBB : BB w B sv base wv ws) (hp : p < ws.length) (hlen : ws.length + fszT d k ≤ 1000) :
    Calls Tryd.prog 18 #[.pointer (some ⟨B, 0, none⟩), .int .i64 3, .int .i64 ty, .agg #[U k.num, .string k.bytes, c2, c3], .int .i64 p] w (FieldP w B sv base wv (fieldW (typeL s ty).length (bldW s d ty) 3 k p ws)) := by
  obtain ⟨a2, p2, a3, p3, hcs, _, hrow, _, hn, _⟩ := hrd.open
  simp only [List.cons.injEq, and_true] at hcs
  obtain ⟨-, -, rfl, rfl⟩ := hcs
  have hn12 := (hasB_nums hb rfl).2.2.2
  obtain ⟨w1, hw1, hb1, hz1, hK⟩ := TB.make w (U k.num) (.string k.bytes) (.slice a2 k.nums.length p2) (.slice a3 k.kids.length p3) 32
  have hbw : base ≤ w.heap.size := hBB.base hbB
  have hlay := hid (lay_any p k.nums.length (by omega) k.nums (fun h => h) (by omega) B base sv (.slice a2 k.nums.length p2) wv ws w1 (by omega) hp (hBB.below hb1) hbB (hrow.below (hb0.trans (hb1.mono hbw)) h0) (fun hpos b off m c e e2 => by
    obtain ⟨b', off', cap', e', h5, h6, h7, _⟩ := hrow.cons hpos
    rw [e'] at e
    simp only [Value.slice.injEq, Option.some.injEq, Addr.mk.injEq] at e
    have := (hBB.own_lt e2).2
    omega))
  have k2 := hK.c2
  have Hfw := hid (show fieldW (typeL s ty).length (bldW s d ty) 3 k p ws = layW p k.nums.length k.nums ws by unfold fieldW; rw [if_neg (by decide), if_neg (by decide), if_pos rfl])
  rw [Hfw.out]
  obtain ⟨m, hm⟩ : ∃ m, m = k.nums.length := ⟨_, rfl⟩
  rw [← hm] at hw1 k2 hlay ⊢
  clear hBB hrow hm hz1 hrd hb
  go_enter Tryd.func18, Tryd.ntmps18
  go_wp2_with fail
  ((refine hlay.out.mono ?_); rintro r5 w5 ⟨rfl, ⟨wv', hB5⟩⟩)
  clear hw1 k2 hlay
  have hfin := hid (hB5.before hb1 hbw)
  clear hB5
  go_wp2_with fail
  go_returns
  exact ⟨rfl, _, hfin.out⟩

set_option maxRecDepth 100000 in
set_option maxHeartbeats 8000000 in
theorem fieldg_bytes (s : Schema) (sv : Value) (d left : Nat) (ty : Int) (k : Node (St d)) (c2 c3 : Value) (p B base : Nat) (wv : Value) (ws : List (BitVec 64)) (w0 w : World) (hb : hasB 2 k = true) (hrd : RdN (RdS d) w0 [U k.num, .string k.bytes, c2, c3] k) (h0 : w0.heap.size ≤ base) (hb0 : Below base w0 w) (hbB : base ≤ B) (hBB : BB w B sv base wv ws) (hp : p < ws.length) (hlen : ws.length + fszT d k ≤ 1000) :
    Calls Tryd.prog 18 #[.pointer (some ⟨B, 0, none⟩), .int .i64 2, .int .i64 ty, .agg #[U k.num, .string k.bytes, c2, c3], .int .i64 p] w (FieldP w B sv base wv (fieldW (typeL s ty).length (bldW s d ty) 2 k p ws)) := by
  obtain ⟨a2, p2, a3, p3, hcs, hdrop⟩ := hrd.open
  clear hdrop
  simp only [List.cons.injEq, and_true] at hcs
  obtain ⟨-, -, rfl, rfl⟩ := hcs
  have hn40 := (hasB_bytes hb rfl).2.2.2
  obtain ⟨w1, hw1, hb1, hz1, hK⟩ := TB.make w (U k.num) (.string k.bytes) (.slice a2 k.nums.length p2) (.slice a3 k.kids.length p3) 32
  have hbw : base ≤ w.heap.size := hBB.base hbB
  have hBl := hBB.lt
  have hwords := hid fun W => words_own k.bytes W (by omega)
  have HA := hid fun W (hW : Below w1.heap.size w1 W) => show BB W B sv base wv ws ∧ TB W w.heap.size (U k.num) (.string k.bytes) (.slice a2 k.nums.length p2) (.slice a3 k.kids.length p3) from ⟨(hBB.below hb1).below hW, hK.below hW⟩
  have Hown := hid fun g (e : wv.ownBlock = some g) => hBB.own_lt e
  have k1 := hK.c1
  have Hfw := hid (show fieldW (typeL s ty).length (bldW s d ty) 2 k p ws = layW p k.bytes.size (wordsV k.bytes.data.toList) ws by unfold fieldW; rw [if_neg (by decide), if_pos rfl])
  rw [Hfw.out]
  have Hcn := hid (show (countV k.bytes.size).toNat = (wordsV k.bytes.data.toList).length by rw [wordsV_length, bytes_len])
  have Hwl := hid (show (wordsV k.bytes.data.toList).length = (k.bytes.size + 7) / 8 by rw [wordsV_len, bytes_len])
  have hszs : (k.bytes.size : Int) ≤ 40 := by omega
  clear hBB hz1 hrd hb hK
  go_enter Tryd.func18, Tryd.ntmps18
  go_wp2_with fail
  clear hw1
  refine wp_region_held_drew (S := (fun W => W.cell? ⟨w.heap.size, 1, none⟩ = some (.string k.bytes))) (by kernel_rfl) ?_ (fun hHeld => ?_)
  · exact k1
  refine wpAnyH_take (i := 0) (oi := { dst := some 33, op := Op.move (Operand.tmp 0), type := 57, pos := "build.go:49", after := #[], guard := none }) (v := ?vb0) rfl (by kernel_rfl) (by kernel_rfl) (by kernel_rfl) (fun _ _ _ h => h) (Or.inl ⟨by rfl, ?hyb0⟩) (by assumption) ?restb0
  case hyb0 => first | (intro w hSw; (try dsimp only at hSw); go_simp; done) | (intro w hSw; (try dsimp only at hSw); go_simp; with_reducible rfl)
  try simp only [Act.put, List.setIfInBounds_toArray, List.set_cons_zero, List.set_cons_succ]
  refine wpAnyH_take (i := 1) (oi := { dst := some 34, op := Op.move (Operand.tmp 4), type := 3, pos := "build.go:49", after := #[], guard := none }) (v := ?vb1) rfl (by kernel_rfl) (by kernel_rfl) (by kernel_rfl) (fun _ _ _ h => h) (Or.inl ⟨by rfl, ?hyb1⟩) (by assumption) ?restb1
  case hyb1 => first | (intro w hSw; (try dsimp only at hSw); go_simp; done) | (intro w hSw; (try dsimp only at hSw); go_simp; with_reducible rfl)
  try simp only [Act.put, List.setIfInBounds_toArray, List.set_cons_zero, List.set_cons_succ]
  refine wpAnyH_take (i := 2) (oi := { dst := some 35, op := Op.fieldAddr 32 (Operand.tmp 8) 1, type := 0, pos := "build.go:49", after := #[], guard := none }) (v := ?vb2) rfl (by kernel_rfl) (by kernel_rfl) (by kernel_rfl) (fun _ _ _ h => h) (Or.inl ⟨by rfl, ?hyb2⟩) (by assumption) ?restb2
  case hyb2 => first | (intro w hSw; (try dsimp only at hSw); go_simp; done) | (intro w hSw; (try dsimp only at hSw); go_simp; with_reducible rfl)
  try simp only [Act.put, List.setIfInBounds_toArray, List.set_cons_zero, List.set_cons_succ]
  refine wpAnyH_take (i := 3) (oi := { dst := some 36, op := Op.load 9 (Operand.tmp 35), type := 9, pos := "build.go:49", after := #[{ on := 2, ground := Ground.data }], guard := none }) (v := ?vb3) rfl (by kernel_rfl) (by kernel_rfl) (by kernel_rfl) (fun _ _ _ h => h) (Or.inl ⟨by rfl, ?hyb3⟩) (by assumption) ?restb3
  case hyb3 => first | (intro w hSw; (try dsimp only at hSw); go_simp; done) | (intro w hSw; (try dsimp only at hSw); go_simp; with_reducible rfl)
  try simp only [Act.put, List.setIfInBounds_toArray, List.set_cons_zero, List.set_cons_succ]
  refine wpAnyH_take (i := 4) (oi := { dst := some 37, op := Op.call { callee := Callee.builtin Builtin.len, args := #[Operand.tmp 36], argTypes := #[9] }, type := 3, pos := "build.go:49", after := #[{ on := 3, ground := Ground.data }], guard := none }) (v := ?vb4) rfl (by kernel_rfl) (by kernel_rfl) (by kernel_rfl) (fun _ _ _ h => h) (Or.inl ⟨by rfl, ?hyb4⟩) (by assumption) ?restb4
  case hyb4 => first | (intro w hSw; (try dsimp only at hSw); go_simp; done) | (intro w hSw; (try dsimp only at hSw); go_simp; with_reducible rfl)
  try simp only [Act.put, List.setIfInBounds_toArray, List.set_cons_zero, List.set_cons_succ]
  refine wpAnyH_take (i := 5) (oi := { dst := some 38, op := Op.fieldAddr 32 (Operand.tmp 8) 1, type := 0, pos := "build.go:49", after := #[], guard := none }) (v := ?vb5) rfl (by kernel_rfl) (by kernel_rfl) (by kernel_rfl) (fun _ _ _ h => h) (Or.inl ⟨by rfl, ?hyb5⟩) (by assumption) ?restb5
  case hyb5 => first | (intro w hSw; (try dsimp only at hSw); go_simp; done) | (intro w hSw; (try dsimp only at hSw); go_simp; with_reducible rfl)
  try simp only [Act.put, List.setIfInBounds_toArray, List.set_cons_zero, List.set_cons_succ]
  refine wpAnyH_take (i := 6) (oi := { dst := some 39, op := Op.load 9 (Operand.tmp 38), type := 9, pos := "build.go:49", after := #[{ on := 5, ground := Ground.data }], guard := none }) (v := ?vb6) rfl (by kernel_rfl) (by kernel_rfl) (by kernel_rfl) (fun _ _ _ h => h) (Or.inl ⟨by rfl, ?hyb6⟩) (by assumption) ?restb6
  case hyb6 => first | (intro w hSw; (try dsimp only at hSw); go_simp; done) | (intro w hSw; (try dsimp only at hSw); go_simp; with_reducible rfl)
  try simp only [Act.put, List.setIfInBounds_toArray, List.set_cons_zero, List.set_cons_succ]
  refine wpAnyH_ready (rs := [7]) (by kernel_rfl) (by simp) ?_
  refine AllReadyH.cons (o := { dst := some 40, op := Op.call { callee := Callee.value (Operand.func 37), args := #[Operand.tmp 39], argTypes := #[9] }, type := 29, pos := "build.go:49", after := #[{ on := 6, ground := Ground.data }], guard := none }) rfl (fun K hK => ?_) AllReadyH.nil
  go_simp
  ((refine (hwords.out _).mono ?_); rintro rb5 wb5 ⟨vb5, rfl, hbb5, rfl, hob5⟩)
  have hab5 := (below_drewN _ w1 1).trans hbb5
  refine hK.out _ _ ?_ (fun hHeld => ?_)
  · exact (HA.out _ hab5).2.c1
  clear hK K
  try simp only [Act.put, List.setIfInBounds_toArray, List.set_cons_zero, List.set_cons_succ]
  refine wpAnyH_ready (rs := [8]) (by kernel_rfl) (by simp) ?_
  refine AllReadyH.cons (o := { dst := some 41, op := Op.call { callee := Callee.value (Operand.func 36), args := #[Operand.tmp 33, Operand.tmp 34, Operand.tmp 37, Operand.tmp 40], argTypes := #[57, 3, 3, 29] }, type := 3, pos := "build.go:49", after := #[{ on := 0, ground := Ground.data }, { on := 1, ground := Ground.data }, { on := 4, ground := Ground.data }, { on := 7, ground := Ground.data }, { on := 7, ground := Ground.chain }], guard := none }) rfl (fun K hK => ?_) AllReadyH.nil
  have hlay5 := hid (lay_any p k.bytes.size (by omega) (wordsV k.bytes.data.toList) (fun h => by rw [Hwl.out]; omega) (by rw [Hwl.out]; omega) B base sv _ wv ws wb5 (by omega) hp (HA.out _ hab5).1 hbB (by rw [← Hcn.out]; exact Row.of_owns hob5) (fun _ b off m c e e2 => by
    simp only [Value.slice.injEq, Option.some.injEq, Addr.mk.injEq] at e
    have h1 := (Hown.out _ e2).1
    have h2 := hb1.size
    have h3 : w1.heap.size = b := e.1.1
    omega))
  go_simp
  ((refine hlay5.out.mono ?_); rintro r7 w7 ⟨rfl, ⟨wv7, hB7⟩⟩)
  have hbA := via hb1 hab5
  refine hK.out _ _ ?_ (fun hHeld => ?_)
  · exact (HA.out _ hab5).2.of_block (hB7.keep _ (HA.out _ hab5).2.lt (by omega) (fun e => by have := (Hown.out _ e).1; omega)) (Nat.lt_of_lt_of_le (HA.out _ hab5).2.lt hB7.below.size) |>.c1
  clear hK K
  try simp only [Act.put, List.setIfInBounds_toArray, List.set_cons_zero, List.set_cons_succ]
  refine wpAnyH_done (by kernel_rfl) ?_ _
  have hfin := hid (Bld.before hbA hbw hB7)
  clear hB7 hHeld HA
  go_wp2_with fail
  go_returns
  exact ⟨rfl, _, hfin.out⟩
end SBFieldG

section SBFieldsG
open Go.RowKit

/-- What the drawn region reads. -/
def FldS (B D : Nat) (sv x0 x1 x2 x3 : Value) (W : World) : Prop :=
  W.cell? ⟨B, 0, none⟩ = some sv ∧ W.cell? ⟨D, 0, none⟩ = some x0 ∧ W.cell? ⟨D, 1, none⟩ = some x1 ∧ W.cell? ⟨D, 2, none⟩ = some x2 ∧ W.cell? ⟨D, 3, none⟩ = some x3
theorem FldS.of {B D : Nat} {sv x0 x1 x2 x3 : Value} {W : World} (h : W.cell? ⟨B, 0, none⟩ = some sv) (hD : TB W D x0 x1 x2 x3) : FldS B D sv x0 x1 x2 x3 W := ⟨h, hD.c0, hD.c1, hD.c2, hD.c3⟩
theorem tb_new (w : World) (x0 x1 x2 x3 : Value) (T : TypeId) : TB (w.alloc (.cells #[x0, x1, x2, x3] T)) w.heap.size x0 x1 x2 x3 := by
  obtain ⟨w2, h, _, _, h4⟩ := TB.make w x0 x1 x2 x3 T
  rw [h]; exact h4

theorem right_field {s : Schema} (hr : rightB s = true) {t : Int} {i : Nat} (hi : i < (typeL s t).length) : 1 ≤ (fieldP s t i).1 ∧ (fieldP s t i).1 ≤ 5 ∧ 0 ≤ (fieldP s t i).2 ∧ (fieldP s t i).2 < s.length ∧ 0 < (typeL s (fieldP s t i).2).length := by
  have ht : 0 ≤ t ∧ t < s.length := by
    by_cases h : 0 ≤ t ∧ t < s.length
    · exact h
    · rw [typeL_out h] at hi; simp at hi
  obtain ⟨tn, rfl⟩ : ∃ n : Nat, t = n := ⟨t.toNat, by omega⟩
  obtain ⟨l, hl⟩ := get_lt (l := s) (i := tn) (by omega)
  rw [typeL_at hl] at hi
  obtain ⟨p, hp⟩ := get_lt hi
  have e : fieldP s tn i = p := fieldP_at (by rw [typeL_at hl]; exact hp)
  obtain ⟨h1, h2, h3, h4, _⟩ := right_at hr hl hp
  rw [e]
  refine ⟨h1, h2, h3, h4, ?_⟩
  obtain ⟨un, hu⟩ : ∃ n : Nat, p.2 = n := ⟨p.2.toNat, by omega⟩
  obtain ⟨l2, hl2⟩ := get_lt (l := s) (i := un) (by omega)
  rw [hu, typeL_at hl2]
  rw [rightB, Bool.and_eq_true, List.all_eq_true] at hr
  have := hr.2 l2 (List.mem_of_getElem? hl2)
  rw [lOk, Bool.and_eq_true, decide_eq_true_eq] at this
  omega

set_option maxRecDepth 100000 in
set_option maxHeartbeats 8000000 in
theorem bfields_step (s : Schema) (hr : rightB s = true) (sv : Value) (d left : Nat) (hfield : FieldC s sv d (left - 1)) : FieldsC s sv (d + 1) left := by
  intro t v cs p B base wv ws w0 w hs hc h h0 hb0 hbB hBB hp hlen
  have hf := (code_struct hc).2.2.2.2.2
  obtain ⟨a2, p2, a, cap, rfl, -, -, hk, -, hkm⟩ := RdN.open h
  obtain ⟨N, hN⟩ : ∃ N, N = (Node.kids v).length := ⟨_, rfl⟩
  have HN := hid hN
  have hpN : p + N ≤ ws.length := by rw [hN]; exact hp
  have hln : ws.length + sumL (fszT d) (Node.kids v) ≤ 1000 := hlen
  rw [← hN] at hk hkm ⊢
  clear hp hlen hN
  have hbw : base ≤ w.heap.size := hBB.base hbB
  obtain ⟨w1, hw1, hb1, hz1, hV⟩ := TB.make w (U (Node.num v)) (.string (Node.bytes v)) (.slice a2 (Node.nums v).length p2) (.slice a N cap) 32
  have v3 := hV.c3
  obtain ⟨F, hF⟩ : ∃ F : Nat → Node (St d) → List (BitVec 64) → List (BitVec 64), F = fun (i : Nat) k w => fieldW (typeL s (fieldP s t i).2).length (bldW s d (fieldP s t i).2) (fieldP s t i).1 k (p + i) w := ⟨_, rfl⟩
  have Hgoal := hid (show bldW s (d + 1) t v ws p = foldI F 0 (Node.kids v) ws by rw [hF]; rfl)
  have HF := hid hF
  have Hlen := hid (show ∀ i, i ≤ N → (foldI F 0 ((Node.kids v).take i) ws).length = ws.length + sumL (fszT d) ((Node.kids v).take i) from fun i hi => by rw [hF]; exact fields_len hf ws p i (by rw [← HN.out]; exact hi))
  have Hfit := hid hf
  have Hs := hid fun W (hW : Below base w W) => hs.below (hb0.trans hW) h0
  have Hs0 := hid hs
  have hnT := (code_struct hc).2.2.2.2.1
  have Hk := hid hk
  have HB0 := hid hb0
  have Hfield := hid hfield
  have Hright := hid fun (i : Nat) (hi : i < N) => right_field hr (t := t) (i := i) (by rw [← hnT, ← HN.out]; exact hi)
  clear h hc hnT
  have hBld : Bld w w1 B sv base wv wv ws := (Bld.refl hBB).later hbw hb1
  rw [Hgoal.out]
  clear hs hk hf hF hBB hV hz1 hb1 hb0 hfield
  go_enter Tryd.func17, Tryd.ntmps17
  go_wp2_with fail
  clear hw1 v3
  go_loopw [15] (fun i wr => ∃ (k : Nat) (wvr : Value), k ≤ N ∧ i = .int .i64 k ∧ Bld w wr B sv base wv wvr (foldI F 0 ((Node.kids v).take k) ws)) (fun i _ => N - (intOf i).toNat)
  case atStart => exact ⟨0, wv, Nat.zero_le _, rfl, hBld⟩
  case round =>
    clear hBld
    obtain ⟨k, wvr, hkN, rfl, hBr⟩ := hrel
    by_cases hlt : k < N
    · obtain ⟨fk, hfk⟩ := get_lt (l := Node.kids v) (i := k) (by rw [← HN.out]; exact hlt)
      obtain ⟨b, off, a4, p4, a5, p5, rfl, hbb, q0, q1, q2, q3, -, -, -, hrd, -, -⟩ := Kids.at_ Hk.out hfk
      have hbr := HB0.out.trans hBr.below
      have hbb2 : b < base := Nat.lt_of_lt_of_le hbb h0
      replace q0 := (hbr.cell hbb2).trans q0
      replace q1 := (hbr.cell hbb2).trans q1
      replace q2 := (hbr.cell hbb2).trans q2
      replace q3 := (hbr.cell hbb2).trans q3
      obtain ⟨hb, hx⟩ := Hfit.out k fk hfk
      have hlk := Hlen.out k hkN
      have hle := sumL_take_at (fszT d) (Node.kids v) k fk hfk
      have Hnext := hid ((foldI_succ F (Node.kids v) k fk ws hfk).trans (show F k fk (foldI F 0 ((Node.kids v).take k) ws) = fieldW (typeL s (fieldP s t k).2).length (bldW s d (fieldP s t k).2) (fieldP s t k).1 fk (p + k) (foldI F 0 ((Node.kids v).take k) ws) by rw [HF.out]))
      have Hrt := hid (fun (_ : 4 ≤ (fieldP s t k).1) => (Hright.out k hlt).2.2.2.2)
      obtain ⟨R, hR⟩ : ∃ R, R = fk.nums.length := ⟨_, rfl⟩
      obtain ⟨M, hM⟩ : ∃ M, M = fk.kids.length := ⟨_, rfl⟩
      rw [← hR] at q2 hrd
      rw [← hM] at q3 hrd
      clear hR hM hfk
      have hkind := hid fun W (hW : Sch W sv s) => kind_any s sv t k W hW
      have htype := hid fun W (hW : Sch W sv s) => type_any s sv t k W hW
      generalize foldI F 0 ((Node.kids v).take k) ws = WS at *
      generalize (fieldP s t k).1 = kd at *
      generalize (fieldP s t k).2 = ty at *
      have hBw := hBr.bb
      have hBl := hBw.lt
      have hbwr : base ≤ wr.heap.size := hBw.base hbB
      have Hown := hid fun g (e : wvr.ownBlock = some g) => (hBw.own_lt e).1
      have hD := tb_new wr (U fk.num) (.string fk.bytes) (.slice a4 R p4) (.slice a5 M p5) 32
      have hb2 := below_alloc wr (.cells #[U fk.num, .string fk.bytes, .slice a4 R p4, .slice a5 M p5] 32)
      have HA := hid fun W (hW : Below (wr.alloc (.cells #[U fk.num, .string fk.bytes, .slice a4 R p4, .slice a5 M p5] 32)).heap.size (wr.alloc (.cells #[U fk.num, .string fk.bytes, .slice a4 R p4, .slice a5 M p5] 32)) W) =>
        show Sch W sv s ∧ BB W B sv base wvr WS ∧ TB W wr.heap.size (U fk.num) (.string fk.bytes) (.slice a4 R p4) (.slice a5 M p5) ∧ Below wr.heap.size wr W from
        ⟨Hs.out _ (hBr.below.trans ((via hb2 hW).mono hbwr)), (hBw.below hb2).below hW, hD.below hW, via hb2 hW⟩
      have hcall := hid fun W (hW : Below (wr.alloc (.cells #[U fk.num, .string fk.bytes, .slice a4 R p4, .slice a5 M p5] 32)).heap.size (wr.alloc (.cells #[U fk.num, .string fk.bytes, .slice a4 R p4, .slice a5 M p5] 32)) W) =>
        Hfield.out kd ty fk (.slice a4 R p4) (.slice a5 M p5) (p + k) B base wvr WS w0 W Hs0.out Hrt.out hb hx hrd h0 (hbr.trans ((via hb2 hW).mono hbwr)) hbB (HA.out W hW).2.1 (by omega) (by omega)
      rw [Int.natCast_add] at hcall
      have hpk : IntKind.i64.wrap ((p : Int) + (k : Int)) = (p : Int) + (k : Int) := IntWalk.i64_in _ (by omega)
      clear hD hBw hb hx hrd hb2
      go_wp2_with fail
      clear q0 q1 q2 q3
      refine wp_region_held_drew (S := (fun W => W.cell? ⟨B, 0, none⟩ = some sv ∧ W.cell? ⟨wr.heap.size, 0, none⟩ = some (U fk.num) ∧ W.cell? ⟨wr.heap.size, 1, none⟩ = some (.string fk.bytes) ∧ W.cell? ⟨wr.heap.size, 2, none⟩ = some (.slice a4 R p4) ∧ W.cell? ⟨wr.heap.size, 3, none⟩ = some (.slice a5 M p5))) (by kernel_rfl) ?_ (fun hHeld => ?_)
      · exact FldS.of (HA.out _ (below_drewN _ _ 1)).2.1.c0 (HA.out _ (below_drewN _ _ 1)).2.2.1
      refine wpAnyH_take (i := 0) (oi := { dst := some 20, op := Op.move (Operand.tmp 3), type := 61, pos := "build.go:39", after := #[], guard := none }) (v := ?vr0) rfl (by kernel_rfl) (by kernel_rfl) (by kernel_rfl) (fun _ _ _ h => h) (Or.inl ⟨by rfl, ?hyr0⟩) (by assumption) ?restr0
      case hyr0 => first | (intro w hSw; (try dsimp only at hSw); go_simp; done) | (intro w hSw; (try dsimp only at hSw); go_simp; with_reducible rfl)
      try simp only [Act.put, List.setIfInBounds_toArray, List.set_cons_zero, List.set_cons_succ]
      refine wpAnyH_take (i := 1) (oi := { dst := some 21, op := Op.move (Operand.tmp 0), type := 57, pos := "build.go:39", after := #[], guard := none }) (v := ?vr1) rfl (by kernel_rfl) (by kernel_rfl) (by kernel_rfl) (fun _ _ _ h => h) (Or.inl ⟨by rfl, ?hyr1⟩) (by assumption) ?restr1
      case hyr1 => first | (intro w hSw; (try dsimp only at hSw); go_simp; done) | (intro w hSw; (try dsimp only at hSw); go_simp; with_reducible rfl)
      try simp only [Act.put, List.setIfInBounds_toArray, List.set_cons_zero, List.set_cons_succ]
      refine wpAnyH_take (i := 2) (oi := { dst := some 22, op := Op.nilCheck (Operand.tmp 21), type := 0, pos := "build.go:39", after := #[{ on := 1, ground := Ground.data }], guard := none }) (v := ?vr2) rfl (by kernel_rfl) (by kernel_rfl) (by kernel_rfl) (fun _ _ _ h => h) (Or.inl ⟨by rfl, ?hyr2⟩) (by assumption) ?restr2
      case hyr2 => first | (intro w hSw; (try dsimp only at hSw); go_simp; done) | (intro w hSw; (try dsimp only at hSw); go_simp; with_reducible rfl)
      try simp only [Act.put, List.setIfInBounds_toArray, List.set_cons_zero, List.set_cons_succ]
      refine wpAnyH_take (i := 3) (oi := { dst := some 23, op := Op.fieldAddr 59 (Operand.tmp 22) 0, type := 0, pos := "build.go:39", after := #[{ on := 2, ground := Ground.data }], guard := none }) (v := ?vr3) rfl (by kernel_rfl) (by kernel_rfl) (by kernel_rfl) (fun _ _ _ h => h) (Or.inl ⟨by rfl, ?hyr3⟩) (by assumption) ?restr3
      case hyr3 => first | (intro w hSw; (try dsimp only at hSw); go_simp; done) | (intro w hSw; (try dsimp only at hSw); go_simp; with_reducible rfl)
      try simp only [Act.put, List.setIfInBounds_toArray, List.set_cons_zero, List.set_cons_succ]
      refine wpAnyH_take (i := 4) (oi := { dst := some 24, op := Op.load 27 (Operand.tmp 23), type := 27, pos := "build.go:39", after := #[{ on := 3, ground := Ground.data }], guard := none }) (v := ?vr4) rfl (by kernel_rfl) (by kernel_rfl) (by kernel_rfl) (fun _ _ _ h => h) (Or.inl ⟨by rfl, ?hyr4⟩) (by assumption) ?restr4
      case hyr4 => first | (intro w hSw; (try dsimp only at hSw); go_simp; done) | (intro w hSw; (try dsimp only at hSw); go_simp; with_reducible rfl)
      try simp only [Act.put, List.setIfInBounds_toArray, List.set_cons_zero, List.set_cons_succ]
      refine wpAnyH_take (i := 5) (oi := { dst := some 25, op := Op.move (Operand.tmp 1), type := 3, pos := "build.go:39", after := #[], guard := none }) (v := ?vr5) rfl (by kernel_rfl) (by kernel_rfl) (by kernel_rfl) (fun _ _ _ h => h) (Or.inl ⟨by rfl, ?hyr5⟩) (by assumption) ?restr5
      case hyr5 => first | (intro w hSw; (try dsimp only at hSw); go_simp; done) | (intro w hSw; (try dsimp only at hSw); go_simp; with_reducible rfl)
      try simp only [Act.put, List.setIfInBounds_toArray, List.set_cons_zero, List.set_cons_succ]
      refine wpAnyH_take (i := 6) (oi := { dst := some 26, op := Op.move (Operand.tmp 10), type := 3, pos := "build.go:39", after := #[], guard := none }) (v := ?vr6) rfl (by kernel_rfl) (by kernel_rfl) (by kernel_rfl) (fun _ _ _ h => h) (Or.inl ⟨by rfl, ?hyr6⟩) (by assumption) ?restr6
      case hyr6 => first | (intro w hSw; (try dsimp only at hSw); go_simp; done) | (intro w hSw; (try dsimp only at hSw); go_simp; with_reducible rfl)
      try simp only [Act.put, List.setIfInBounds_toArray, List.set_cons_zero, List.set_cons_succ]
      refine wpAnyH_take (i := 8) (oi := { dst := some 28, op := Op.move (Operand.tmp 0), type := 57, pos := "build.go:39", after := #[], guard := none }) (v := ?vr8) rfl (by kernel_rfl) (by kernel_rfl) (by kernel_rfl) (fun _ _ _ h => h) (Or.inl ⟨by rfl, ?hyr8⟩) (by assumption) ?restr8
      case hyr8 => first | (intro w hSw; (try dsimp only at hSw); go_simp; done) | (intro w hSw; (try dsimp only at hSw); go_simp; with_reducible rfl)
      try simp only [Act.put, List.setIfInBounds_toArray, List.set_cons_zero, List.set_cons_succ]
      refine wpAnyH_take (i := 9) (oi := { dst := some 29, op := Op.nilCheck (Operand.tmp 28), type := 0, pos := "build.go:39", after := #[{ on := 8, ground := Ground.data }], guard := none }) (v := ?vr9) rfl (by kernel_rfl) (by kernel_rfl) (by kernel_rfl) (fun _ _ _ h => h) (Or.inl ⟨by rfl, ?hyr9⟩) (by assumption) ?restr9
      case hyr9 => first | (intro w hSw; (try dsimp only at hSw); go_simp; done) | (intro w hSw; (try dsimp only at hSw); go_simp; with_reducible rfl)
      try simp only [Act.put, List.setIfInBounds_toArray, List.set_cons_zero, List.set_cons_succ]
      refine wpAnyH_take (i := 10) (oi := { dst := some 30, op := Op.fieldAddr 59 (Operand.tmp 29) 0, type := 0, pos := "build.go:39", after := #[{ on := 9, ground := Ground.data }], guard := none }) (v := ?vr10) rfl (by kernel_rfl) (by kernel_rfl) (by kernel_rfl) (fun _ _ _ h => h) (Or.inl ⟨by rfl, ?hyr10⟩) (by assumption) ?restr10
      case hyr10 => first | (intro w hSw; (try dsimp only at hSw); go_simp; done) | (intro w hSw; (try dsimp only at hSw); go_simp; with_reducible rfl)
      try simp only [Act.put, List.setIfInBounds_toArray, List.set_cons_zero, List.set_cons_succ]
      refine wpAnyH_take (i := 11) (oi := { dst := some 31, op := Op.load 27 (Operand.tmp 30), type := 27, pos := "build.go:39", after := #[{ on := 10, ground := Ground.data }], guard := none }) (v := ?vr11) rfl (by kernel_rfl) (by kernel_rfl) (by kernel_rfl) (fun _ _ _ h => h) (Or.inl ⟨by rfl, ?hyr11⟩) (by assumption) ?restr11
      case hyr11 => first | (intro w hSw; (try dsimp only at hSw); go_simp; done) | (intro w hSw; (try dsimp only at hSw); go_simp; with_reducible rfl)
      try simp only [Act.put, List.setIfInBounds_toArray, List.set_cons_zero, List.set_cons_succ]
      refine wpAnyH_take (i := 12) (oi := { dst := some 32, op := Op.move (Operand.tmp 1), type := 3, pos := "build.go:39", after := #[], guard := none }) (v := ?vr12) rfl (by kernel_rfl) (by kernel_rfl) (by kernel_rfl) (fun _ _ _ h => h) (Or.inl ⟨by rfl, ?hyr12⟩) (by assumption) ?restr12
      case hyr12 => first | (intro w hSw; (try dsimp only at hSw); go_simp; done) | (intro w hSw; (try dsimp only at hSw); go_simp; with_reducible rfl)
      try simp only [Act.put, List.setIfInBounds_toArray, List.set_cons_zero, List.set_cons_succ]
      refine wpAnyH_take (i := 13) (oi := { dst := some 33, op := Op.move (Operand.tmp 10), type := 3, pos := "build.go:39", after := #[], guard := none }) (v := ?vr13) rfl (by kernel_rfl) (by kernel_rfl) (by kernel_rfl) (fun _ _ _ h => h) (Or.inl ⟨by rfl, ?hyr13⟩) (by assumption) ?restr13
      case hyr13 => first | (intro w hSw; (try dsimp only at hSw); go_simp; done) | (intro w hSw; (try dsimp only at hSw); go_simp; with_reducible rfl)
      try simp only [Act.put, List.setIfInBounds_toArray, List.set_cons_zero, List.set_cons_succ]
      refine wpAnyH_take (i := 15) (oi := { dst := some 35, op := Op.load 32 (Operand.tmp 11), type := 32, pos := "build.go:39", after := #[], guard := none }) (v := ?vr15) rfl (by kernel_rfl) (by kernel_rfl) (by kernel_rfl) (fun _ _ _ h => h) (Or.inl ⟨by rfl, ?hyr15⟩) (by assumption) ?restr15
      case hyr15 => first | (intro w hSw; (try dsimp only at hSw); go_simp; done) | (intro w hSw; (try dsimp only at hSw); go_simp; with_reducible rfl)
      try simp only [Act.put, List.setIfInBounds_toArray, List.set_cons_zero, List.set_cons_succ]
      refine wpAnyH_take (i := 16) (oi := { dst := some 36, op := Op.move (Operand.tmp 4), type := 3, pos := "build.go:39", after := #[], guard := none }) (v := ?vr16) rfl (by kernel_rfl) (by kernel_rfl) (by kernel_rfl) (fun _ _ _ h => h) (Or.inl ⟨by rfl, ?hyr16⟩) (by assumption) ?restr16
      case hyr16 => first | (intro w hSw; (try dsimp only at hSw); go_simp; done) | (intro w hSw; (try dsimp only at hSw); go_simp; with_reducible rfl)
      try simp only [Act.put, List.setIfInBounds_toArray, List.set_cons_zero, List.set_cons_succ]
      refine wpAnyH_take (i := 17) (oi := { dst := some 37, op := Op.move (Operand.tmp 10), type := 3, pos := "build.go:39", after := #[], guard := none }) (v := ?vr17) rfl (by kernel_rfl) (by kernel_rfl) (by kernel_rfl) (fun _ _ _ h => h) (Or.inl ⟨by rfl, ?hyr17⟩) (by assumption) ?restr17
      case hyr17 => first | (intro w hSw; (try dsimp only at hSw); go_simp; done) | (intro w hSw; (try dsimp only at hSw); go_simp; with_reducible rfl)
      try simp only [Act.put, List.setIfInBounds_toArray, List.set_cons_zero, List.set_cons_succ]
      refine wpAnyH_take (i := 18) (oi := { dst := some 38, op := Op.binOp BinOp.add 3 (Operand.tmp 36) (Operand.tmp 37) 3, type := 3, pos := "build.go:39", after := #[{ on := 16, ground := Ground.data }, { on := 17, ground := Ground.data }], guard := none }) (v := ?vr18) rfl (by kernel_rfl) (by kernel_rfl) (by kernel_rfl) (fun _ _ _ h => h) (Or.inl ⟨by rfl, ?hyr18⟩) (by assumption) ?restr18
      case hyr18 => first | (intro w hSw; (try dsimp only at hSw); go_simp; done) | (intro w hSw; (try dsimp only at hSw); go_simp; with_reducible rfl)
      try simp only [Act.put, List.setIfInBounds_toArray, List.set_cons_zero, List.set_cons_succ]
      refine wpAnyH_ready (rs := [7]) (by kernel_rfl) (by simp) ?_
      refine AllReadyH.cons (o := { dst := some 27, op := Op.call { callee := Callee.value (Operand.func 34), args := #[Operand.tmp 24, Operand.tmp 25, Operand.tmp 26], argTypes := #[27, 3, 3] }, type := 3, pos := "build.go:39", after := #[{ on := 4, ground := Ground.data }, { on := 5, ground := Ground.data }, { on := 6, ground := Ground.data }], guard := none }) rfl (fun K hK => ?_) AllReadyH.nil
      go_simp
      ((refine (hkind.out _ (HA.out _ (below_drewN _ _ 1)).1).mono ?_); rintro rr5 wr5 ⟨rfl, hbr5⟩)
      have har5 := (below_drewN _ _ 1).trans hbr5
      refine hK.out _ _ ?_ (fun hHeld => ?_)
      · exact FldS.of (HA.out _ har5).2.1.c0 (HA.out _ har5).2.2.1
      clear hK K
      try simp only [Act.put, List.setIfInBounds_toArray, List.set_cons_zero, List.set_cons_succ]
      refine wpAnyH_ready (rs := [14]) (by kernel_rfl) (by simp) ?_
      refine AllReadyH.cons (o := { dst := some 34, op := Op.call { callee := Callee.value (Operand.func 35), args := #[Operand.tmp 31, Operand.tmp 32, Operand.tmp 33], argTypes := #[27, 3, 3] }, type := 3, pos := "build.go:39", after := #[{ on := 11, ground := Ground.data }, { on := 12, ground := Ground.data }, { on := 13, ground := Ground.data }, { on := 7, ground := Ground.chain }], guard := none }) rfl (fun K hK => ?_) AllReadyH.nil
      go_simp
      ((refine (htype.out _ (HA.out _ har5).1).mono ?_); rintro rr6 wr6 ⟨rfl, hbr6⟩)
      have har6 := har5.trans (hbr6.mono har5.size)
      refine hK.out _ _ ?_ (fun hHeld => ?_)
      · exact FldS.of (HA.out _ har6).2.1.c0 (HA.out _ har6).2.2.1
      clear hK K
      try simp only [Act.put, List.setIfInBounds_toArray, List.set_cons_zero, List.set_cons_succ]
      refine wpAnyH_ready (rs := [19]) (by kernel_rfl) (by simp) ?_
      refine AllReadyH.cons (o := { dst := some 39, op := Op.call { callee := Callee.value (Operand.tmp 20), args := #[Operand.tmp 27, Operand.tmp 34, Operand.tmp 35, Operand.tmp 38], argTypes := #[3, 3, 32, 3] }, type := 0, pos := "build.go:39", after := #[{ on := 0, ground := Ground.data }, { on := 7, ground := Ground.data }, { on := 14, ground := Ground.data }, { on := 15, ground := Ground.data }, { on := 18, ground := Ground.data }, { on := 14, ground := Ground.chain }], guard := none }) rfl (fun K hK => ?_) AllReadyH.nil
      go_simp
      ((refine (hcall.out _ har6).mono ?_); rintro rr7 wr7 ⟨rfl, wv7, hB7⟩)
      refine hK.out _ _ ?_ (fun hHeld => ?_)
      · exact FldS.of hB7.bb.c0 ((HA.out _ har6).2.2.1.of_block (hB7.keep _ (HA.out _ har6).2.2.1.lt (by omega) (fun e => by have := Hown.out _ e; omega)) (Nat.lt_of_lt_of_le (HA.out _ har6).2.2.1.lt hB7.below.size))
      clear hK K
      try simp only [Act.put, List.setIfInBounds_toArray, List.set_cons_zero, List.set_cons_succ]
      refine wpAnyH_done (by kernel_rfl) ?_ _
      have hfin := hid (hBr.trans (Bld.before (HA.out _ har6).2.2.2 hbwr hB7))
      clear hB7 har6 har5 hbr5 hbr6 hHeld HA hcall hkind htype hpk Hrt
      go_wp2_with fail
      go_roundw
      case rel => exact ⟨k + 1, wv7, by omega, by go_num, by rw [Hnext.out]; exact hfin.out⟩
      case measure => simp [intOf]; omega
    · obtain rfl : k = N := by omega
      have hfin := hid (show Bld w wr B sv base wv wvr (foldI F 0 (Node.kids v) ws) by rw [foldI_all _ _ _ _ (by rw [HN.out]; exact Nat.le_refl _)] at hBr; exact hBr)
      clear hBr
      go_wp2_with fail
      go_returns
      exact ⟨rfl, wvr, hfin.out⟩
set_option maxRecDepth 100000 in
set_option maxHeartbeats 8000000 in
theorem fieldg_kids4 (s : Schema) (sv : Value) (d left : Nat) (hfields : FieldsC s sv d left) (kd ty : Int) (hkd : kd = 4) (k : Node (St d)) (c2 c3 : Value) (p B base : Nat) (wv : Value) (ws : List (BitVec 64)) (w0 w : World) (hs : Sch w0 sv s) (hnf : 0 < (typeL s ty).length) (hb : hasB kd k = true) (hx : ∀ x ∈ k.kids, codeT s d left ty x = 0)
    (hrd : RdN (RdS d) w0 [U k.num, .string k.bytes, c2, c3] k) (h0 : w0.heap.size ≤ base) (hb0 : Below base w0 w) (hbB : base ≤ B) (hBB : BB w B sv base wv ws) (hp : p < ws.length) (hlen : ws.length + fszT d k ≤ 1000) :
    Calls Tryd.prog 18 #[.pointer (some ⟨B, 0, none⟩), .int .i64 kd, .int .i64 ty, .agg #[U k.num, .string k.bytes, c2, c3], .int .i64 p] w (FieldP w B sv base wv (fieldW (typeL s ty).length (bldW s d ty) kd k p ws)) := by
  obtain ⟨iU, hiU, hzU, hsU, hbU⟩ := info_parts (show (Tryd.prog.info? 28).map (fun i => (i.zero, i.size, i.bytes)) = some (some (.int .u64 0), 1, 8) by kernel_rfl)
  obtain ⟨a2, p2, a3, p3, hcs, -, -, hkk, -, hkm⟩ := hrd.open
  simp only [List.cons.injEq, and_true] at hcs
  obtain ⟨-, -, rfl, rfl⟩ := hcs
  have hm12 := (hasB_kids hb (by omega) (by omega) (by omega)).2.2.2.2
  have hfz : fszT d k = (k.bytes.size + 7) / 8 + k.nums.length + sumL (wordsT d) k.kids := rfl
  have hsw := sum_words k.kids hx
  have hl0 : (layW p k.kids.length (List.replicate ((typeL s ty).length * k.kids.length) 0#64) ws).length = ws.length + (typeL s ty).length * k.kids.length := by
    rw [layW_len _ _ _ _ (fun e => by rw [e]; simp), List.length_replicate]
  have Hlen := hid (fun j hj => kids_len k.kids hx (fun x ws p h => bld_len d left ty x ws p h) (fun j => ws.length + (typeL s ty).length * j) (layW p k.kids.length (List.replicate ((typeL s ty).length * k.kids.length) 0#64) ws) j hj)
  rw [hl0] at Hlen
  obtain ⟨W0, hW0⟩ : ∃ W0, W0 = layW p k.kids.length (List.replicate ((typeL s ty).length * k.kids.length) 0#64) ws := ⟨_, rfl⟩
  obtain ⟨L, hL⟩ : ∃ L, L = ws.length := ⟨_, rfl⟩
  obtain ⟨G, hG⟩ : ∃ G : Nat → St d → List (BitVec 64) → List (BitVec 64), G = fun (j : Nat) x w => bldW s d ty x w (L + (typeL s ty).length * j) := ⟨_, rfl⟩
  have Hfw := hid (show fieldW (typeL s ty).length (bldW s d ty) kd k p ws = foldI G 0 k.kids W0 by
    unfold fieldW
    rw [if_neg (by omega), if_neg (by omega), if_neg (by omega), hG, hW0, hL])
  rw [Hfw.out]
  have HG := hid hG
  rw [← hW0, ← hL, ← hG] at Hlen
  have HL := hid hL
  have hbw : base ≤ w.heap.size := hBB.base hbB
  obtain ⟨w1, hw1, hb1, hz1, hK⟩ := TB.make w (U k.num) (.string k.bytes) (.slice a2 k.nums.length p2) (.slice a3 k.kids.length p3) 32
  have k3 := hK.c3
  have hbr1 := hb0.trans (hb1.mono hbw)
  have hfields1 := nfields_any s sv ty w1 (hs.below hbr1 h0)
  obtain ⟨nf, hnfe⟩ : ∃ nf, nf = (typeL s ty).length := ⟨_, rfl⟩
  obtain ⟨M, hM⟩ : ∃ M, M = k.kids.length := ⟨_, rfl⟩
  have HM := hid hM
  have Hnf := hid hnfe
  have HW0 := hid hW0
  have Hx := hid hx
  have Hkk := hid hkk
  have Hs0 := hid hs
  have HB0 := hid hb0
  have Hfields := hid hfields
  rw [← hnfe] at hfields1 hsw hnf Hlen HW0 HG
  rw [← hM] at hw1 k3 hK hm12 hsw Hlen HW0 Hkk hkm ⊢
  have hnfM : nf * M ≤ 1000 := by omega
  have HA := hid fun W (hW : Below w1.heap.size w1 W) => show BB W B sv base wv ws ∧ TB W w.heap.size (U k.num) (.string k.bytes) (.slice a2 k.nums.length p2) (.slice a3 M p3) from ⟨(hBB.below hb1).below hW, hK.below hW⟩
  have Hown := hid fun g (e : wv.ownBlock = some g) => hBB.own_lt e
  have hBl := hBB.lt
  have c0 := (hBB.below hb1).c0
  have hmul : IntKind.i64.wrap ((nf : Int) * (M : Int)) = ((nf * M : Nat) : Int) := by
    rw [Int.natCast_mul]
    have : ((nf * M : Nat) : Int) ≤ 1000 := by omega
    rw [Int.natCast_mul] at this
    have h2 : (0 : Int) ≤ (nf : Int) * (M : Int) := by rw [← Int.natCast_mul]; omega
    exact IntWalk.i64_in _ (by omega)
  have hLl : L + nf * M + sumL (belowT d) k.kids ≤ 1000 := by omega
  rw [← hL] at hp
  clear hs hb0 hx hkk hrd hb hBB hz1 hK hW0 hG hsw hfz hl0 hfields hlen hL hM hnfe
  subst hkd
  go_enter Tryd.func18, Tryd.ntmps18
  go_wp2_with fail
  ((refine hfields1.mono ?_); rintro r2 w1 ⟨rfl, rfl⟩)
  go_wp2_with fail
  clear hw1 c0
  refine wp_region_held_drew (S := (fun W => W.cell? ⟨w.heap.size, 3, none⟩ = some (.slice a3 M p3))) (by kernel_rfl) ?_ (fun hHeld => ?_)
  · exact k3
  refine wpAnyH_take (i := 0) (oi := { dst := some 56, op := Op.move (Operand.tmp 0), type := 57, pos := "build.go:56", after := #[], guard := none }) (v := ?vm0) rfl (by kernel_rfl) (by kernel_rfl) (by kernel_rfl) (fun _ _ _ h => h) (Or.inl ⟨by rfl, ?hym0⟩) (by assumption) ?restm0
  case hym0 => first | (intro w hSw; (try dsimp only at hSw); go_simp; done) | (intro w hSw; (try dsimp only at hSw); go_simp; with_reducible rfl)
  try simp only [Act.put, List.setIfInBounds_toArray, List.set_cons_zero, List.set_cons_succ]
  refine wpAnyH_take (i := 1) (oi := { dst := some 57, op := Op.move (Operand.tmp 4), type := 3, pos := "build.go:56", after := #[], guard := none }) (v := ?vm1) rfl (by kernel_rfl) (by kernel_rfl) (by kernel_rfl) (fun _ _ _ h => h) (Or.inl ⟨by rfl, ?hym1⟩) (by assumption) ?restm1
  case hym1 => first | (intro w hSw; (try dsimp only at hSw); go_simp; done) | (intro w hSw; (try dsimp only at hSw); go_simp; with_reducible rfl)
  try simp only [Act.put, List.setIfInBounds_toArray, List.set_cons_zero, List.set_cons_succ]
  refine wpAnyH_take (i := 2) (oi := { dst := some 58, op := Op.fieldAddr 32 (Operand.tmp 8) 3, type := 0, pos := "build.go:56", after := #[], guard := none }) (v := ?vm2) rfl (by kernel_rfl) (by kernel_rfl) (by kernel_rfl) (fun _ _ _ h => h) (Or.inl ⟨by rfl, ?hym2⟩) (by assumption) ?restm2
  case hym2 => first | (intro w hSw; (try dsimp only at hSw); go_simp; done) | (intro w hSw; (try dsimp only at hSw); go_simp; with_reducible rfl)
  try simp only [Act.put, List.setIfInBounds_toArray, List.set_cons_zero, List.set_cons_succ]
  refine wpAnyH_take (i := 3) (oi := { dst := some 59, op := Op.load 30 (Operand.tmp 58), type := 30, pos := "build.go:56", after := #[{ on := 2, ground := Ground.data }], guard := none }) (v := ?vm3) rfl (by kernel_rfl) (by kernel_rfl) (by kernel_rfl) (fun _ _ _ h => h) (Or.inl ⟨by rfl, ?hym3⟩) (by assumption) ?restm3
  case hym3 => first | (intro w hSw; (try dsimp only at hSw); go_simp; done) | (intro w hSw; (try dsimp only at hSw); go_simp; with_reducible rfl)
  try simp only [Act.put, List.setIfInBounds_toArray, List.set_cons_zero, List.set_cons_succ]
  refine wpAnyH_take (i := 4) (oi := { dst := some 60, op := Op.call { callee := Callee.builtin Builtin.len, args := #[Operand.tmp 59], argTypes := #[30] }, type := 3, pos := "build.go:56", after := #[{ on := 3, ground := Ground.data }], guard := none }) (v := ?vm4) rfl (by kernel_rfl) (by kernel_rfl) (by kernel_rfl) (fun _ _ _ h => h) (Or.inl ⟨by rfl, ?hym4⟩) (by assumption) ?restm4
  case hym4 => first | (intro w hSw; (try dsimp only at hSw); go_simp; done) | (intro w hSw; (try dsimp only at hSw); go_simp; with_reducible rfl)
  try simp only [Act.put, List.setIfInBounds_toArray, List.set_cons_zero, List.set_cons_succ]
  refine wpAnyH_take (i := 5) (oi := { dst := some 61, op := Op.move (Operand.tmp 10), type := 3, pos := "build.go:56", after := #[], guard := none }) (v := ?vm5) rfl (by kernel_rfl) (by kernel_rfl) (by kernel_rfl) (fun _ _ _ h => h) (Or.inl ⟨by rfl, ?hym5⟩) (by assumption) ?restm5
  case hym5 => first | (intro w hSw; (try dsimp only at hSw); go_simp; done) | (intro w hSw; (try dsimp only at hSw); go_simp; with_reducible rfl)
  try simp only [Act.put, List.setIfInBounds_toArray, List.set_cons_zero, List.set_cons_succ]
  refine wpAnyH_take (i := 6) (oi := { dst := some 62, op := Op.fieldAddr 32 (Operand.tmp 8) 3, type := 0, pos := "build.go:56", after := #[], guard := none }) (v := ?vm6) rfl (by kernel_rfl) (by kernel_rfl) (by kernel_rfl) (fun _ _ _ h => h) (Or.inl ⟨by rfl, ?hym6⟩) (by assumption) ?restm6
  case hym6 => first | (intro w hSw; (try dsimp only at hSw); go_simp; done) | (intro w hSw; (try dsimp only at hSw); go_simp; with_reducible rfl)
  try simp only [Act.put, List.setIfInBounds_toArray, List.set_cons_zero, List.set_cons_succ]
  refine wpAnyH_take (i := 7) (oi := { dst := some 63, op := Op.load 30 (Operand.tmp 62), type := 30, pos := "build.go:56", after := #[{ on := 6, ground := Ground.data }], guard := none }) (v := ?vm7) rfl (by kernel_rfl) (by kernel_rfl) (by kernel_rfl) (fun _ _ _ h => h) (Or.inl ⟨by rfl, ?hym7⟩) (by assumption) ?restm7
  case hym7 => first | (intro w hSw; (try dsimp only at hSw); go_simp; done) | (intro w hSw; (try dsimp only at hSw); go_simp; with_reducible rfl)
  try simp only [Act.put, List.setIfInBounds_toArray, List.set_cons_zero, List.set_cons_succ]
  refine wpAnyH_take (i := 8) (oi := { dst := some 64, op := Op.call { callee := Callee.builtin Builtin.len, args := #[Operand.tmp 63], argTypes := #[30] }, type := 3, pos := "build.go:56", after := #[{ on := 7, ground := Ground.data }], guard := none }) (v := ?vm8) rfl (by kernel_rfl) (by kernel_rfl) (by kernel_rfl) (fun _ _ _ h => h) (Or.inl ⟨by rfl, ?hym8⟩) (by assumption) ?restm8
  case hym8 => first | (intro w hSw; (try dsimp only at hSw); go_simp; done) | (intro w hSw; (try dsimp only at hSw); go_simp; with_reducible rfl)
  try simp only [Act.put, List.setIfInBounds_toArray, List.set_cons_zero, List.set_cons_succ]
  refine wpAnyH_take (i := 9) (oi := { dst := some 65, op := Op.binOp BinOp.mul 3 (Operand.tmp 61) (Operand.tmp 64) 3, type := 3, pos := "build.go:56", after := #[{ on := 5, ground := Ground.data }, { on := 8, ground := Ground.data }], guard := none }) (v := ?vm9) rfl (by kernel_rfl) (by kernel_rfl) (by kernel_rfl) (fun _ _ _ h => h) (Or.inl ⟨by rfl, ?hym9⟩) (by assumption) ?restm9
  case hym9 => first | (intro w hSw; (try dsimp only at hSw); go_simp; done) | (intro w hSw; (try dsimp only at hSw); go_simp; with_reducible rfl)
  try simp only [Act.put, List.setIfInBounds_toArray, List.set_cons_zero, List.set_cons_succ]
  refine wpAnyH_ready (rs := [10]) (by kernel_rfl) (by simp) ?_
  refine AllReadyH.cons (o := { dst := some 66, op := Op.makeSlice 29 (Operand.tmp 65) (Operand.tmp 65), type := 29, pos := "build.go:56", after := #[{ on := 9, ground := Ground.data }, { on := 9, ground := Ground.data }], guard := none }) rfl (fun K hK => ?_) AllReadyH.nil
  rw [if_pos (by rfl)]
  refine wp_make_full _ (.tmp 65) (.tmp 65) 29 rfl w1.heap.size 28 iU _ 1 Tryd.underlying29 hiU hzU hsU .i64 .i64 _ _ (nf * M) rfl rfl rfl rfl (by rw [hbU]; omega) (by unfold maxLen; omega) (Nat.le_refl _) ?_
  intro w5 ho5 hg5
  have hb5 : Below w1.heap.size w1 w5 := (below_drewN _ w1 1).trans ((Below.refl _ _).grown hg5 (Nat.le_refl _) (fun q e => by cases e))
  have hab5 := hb5
  have hob5 : w5.ownsRow w1.heap.size 28 1 (.slice (some ⟨w1.heap.size, 0, none⟩) (nf * M) (nf * M)) (nf * M) ((List.replicate (nf * M) 0#64).map U) := by
    have := ho5
    rw [Nat.mul_one, show (Value.int IntKind.u64 0).cells = #[.int .u64 0] from rfl, toList_madeCells_one] at this
    rw [List.map_replicate]
    exact this
  refine hK.out _ _ ?_ (fun hHeld => ?_)
  · exact (HA.out _ hab5).2.c3
  clear hK K
  try simp only [Act.put, List.setIfInBounds_toArray, List.set_cons_zero, List.set_cons_succ]
  refine wpAnyH_ready (rs := [11]) (by kernel_rfl) (by simp) ?_
  refine AllReadyH.cons (o := { dst := some 67, op := Op.call { callee := Callee.value (Operand.func 36), args := #[Operand.tmp 56, Operand.tmp 57, Operand.tmp 60, Operand.tmp 66], argTypes := #[57, 3, 3, 29] }, type := 3, pos := "build.go:56", after := #[{ on := 0, ground := Ground.data }, { on := 1, ground := Ground.data }, { on := 4, ground := Ground.data }, { on := 10, ground := Ground.data }], guard := none }) rfl (fun K hK => ?_) AllReadyH.nil
  have hlay5 := hid (show Calls _ _ _ w5 (fun e w' => e = .returned (.int .i64 ((ws.length : Nat) : Int)) ∧ ∃ wv', Bld w5 w' B sv base wv wv' (layW p M (List.replicate (nf * M) 0#64) ws)) from lay_any p M (by omega) (List.replicate (nf * M) 0#64) (fun h => by rw [List.length_replicate]; exact Nat.mul_pos hnf h) (by rw [List.length_replicate]; omega) B base sv _ wv ws w5 (by have := HL.out; omega) (by rw [← HL.out]; exact hp) (HA.out _ hab5).1 hbB (by rw [List.length_replicate]; exact Row.of_owns hob5) (fun _ b off m c e e2 => by
    simp only [Value.slice.injEq, Option.some.injEq, Addr.mk.injEq] at e
    have h1 := (Hown.out _ e2).1
    have h2 := hb1.size
    omega))
  rw [← HL.out] at hlay5
  go_simp
  ((refine hlay5.out.mono ?_); rintro r7 w7 ⟨rfl, ⟨wv7, hB7⟩⟩)
  refine hK.out _ _ ?_ (fun hHeld => ?_)
  · exact ((HA.out _ hab5).2.of_block (hB7.keep _ (HA.out _ hab5).2.lt (by omega) (fun e => by have := (Hown.out _ e).1; omega)) (Nat.lt_of_lt_of_le (HA.out _ hab5).2.lt hB7.below.size)).c3
  clear hK K
  try simp only [Act.put, List.setIfInBounds_toArray, List.set_cons_zero, List.set_cons_succ]
  refine wpAnyH_take (i := 12) (oi := { dst := some 11, op := Op.assign (Operand.tmp 67), type := 3, pos := "build.go:56", after := #[{ on := 11, ground := Ground.data }, { on := 11, ground := Ground.chain }, { on := 0, ground := Ground.phase }, { on := 1, ground := Ground.phase }, { on := 2, ground := Ground.phase }, { on := 3, ground := Ground.phase }, { on := 4, ground := Ground.phase }, { on := 5, ground := Ground.phase }, { on := 6, ground := Ground.phase }, { on := 7, ground := Ground.phase }, { on := 8, ground := Ground.phase }, { on := 9, ground := Ground.phase }, { on := 10, ground := Ground.phase }, { on := 11, ground := Ground.phase }], guard := none }) (v := ?vm12) rfl (by kernel_rfl) (by kernel_rfl) (by kernel_rfl) (fun _ _ _ h => h) (Or.inl ⟨by rfl, ?hym12⟩) (by assumption) ?restm12
  case hym12 => first | (intro w hSw; (try dsimp only at hSw); go_simp; done) | (intro w hSw; (try dsimp only at hSw); go_simp; with_reducible rfl)
  try simp only [Act.put, List.setIfInBounds_toArray, List.set_cons_zero, List.set_cons_succ]
  refine wpAnyH_done (by kernel_rfl) ?_ _
  have hbA := via hb1 hab5
  have k4 := ((HA.out _ hab5).2.of_block (hB7.keep _ (HA.out _ hab5).2.lt (by omega) (fun e => by have := (Hown.out _ e).1; omega)) (Nat.lt_of_lt_of_le (HA.out _ hab5).2.lt hB7.below.size)).c3
  have hBld : Bld w w7 B sv base wv wv7 W0 := by rw [HW0.out]; exact Bld.before hbA hbw hB7
  clear hB7 hHeld HA k3 hfields1 hmul hab5 hbA hb5 hob5 hg5
  go_wp2_with fail
  go_loopw [71] (fun i wr => ∃ (j : Nat) (wvr : Value), j ≤ M ∧ i = .int .i64 j ∧ Bld w wr B sv base wv wvr (foldI G 0 (k.kids.take j) W0)) (fun i _ => M - (intOf i).toNat)
  case atStart => exact ⟨0, wv7, Nat.zero_le _, rfl, hBld⟩
  case round =>
    clear hBld k4
    obtain ⟨j, wvr, hjM, rfl, hBr⟩ := hrel
    by_cases hlt : j < M
    · obtain ⟨x, hxj⟩ := get_lt (l := k.kids) (i := j) (by rw [← HM.out]; exact hlt)
      obtain ⟨b2, off2, xn, xb, e2, m2, t2, e3, m3, t3, rfl, hbb2, q0, q1, q2, q3, hrx⟩ := Kids.atS Hkk.out hxj
      have hbr := HB0.out.trans hBr.below
      have hbb3 : b2 < base := Nat.lt_of_lt_of_le hbb2 h0
      replace q0 := (hbr.cell hbb3).trans q0
      replace q1 := (hbr.cell hbb3).trans q1
      replace q2 := (hbr.cell hbb3).trans q2
      replace q3 := (hbr.cell hbb3).trans q3
      have hcx := Hx.out x (List.mem_of_getElem? hxj)
      have hnk : nkT d x = nf := by rw [Hnf.out]; exact nk_code hcx
      have hlj := Hlen.out j hjM
      have hbl := sumL_take_at (belowT d) k.kids j x hxj
      have Hnext := hid ((foldI_succ G k.kids j x W0 hxj).trans (show G j x (foldI G 0 (k.kids.take j) W0) = bldW s d ty x (foldI G 0 (k.kids.take j) W0) (L + nf * j) by rw [HG.out]))
      generalize foldI G 0 (k.kids.take j) W0 = V at *
      have hmj : nf * j + nf ≤ nf * M := by rw [← Nat.mul_succ]; exact Nat.mul_le_mul_left _ hlt
      have hbwr : base ≤ wr.heap.size := hBr.bb.base hbB
      obtain ⟨wk, hwk, hbk, hltk, hboxk⟩ := boxed wr #[U xn, .string xb, .slice e2 m2 t2, .slice e3 m3 t3] 32
      have z0 : wk.cell? ⟨wr.heap.size, 0, none⟩ = some (U xn) := hboxk 0
      have z1 : wk.cell? ⟨wr.heap.size, 1, none⟩ = some (.string xb) := hboxk 1
      have z2 : wk.cell? ⟨wr.heap.size, 2, none⟩ = some (.slice e2 m2 t2) := hboxk 2
      have z3 : wk.cell? ⟨wr.heap.size, 3, none⟩ = some (.slice e3 m3 t3) := hboxk 3
      have hcall := hid (Hfields.out ty x _ (L + nf * j) B base wvr V w0 wk Hs0.out hcx hrx h0 (hbr.trans (hbk.mono hbwr)) hbB (hBr.bb.below hbk) (by omega) (by omega))
      rw [Int.natCast_add, Int.natCast_mul] at hcall
      have hnj : ((nf * j : Nat) : Int) ≤ 1000 := by omega
      rw [Int.natCast_mul] at hnj
      have hnj0 : (0 : Int) ≤ (nf : Int) * (j : Int) := by rw [← Int.natCast_mul]; omega
      have hL1 : (L : Int) ≤ 1000 := by omega
      clear hboxk hxj hrx hcx hnk hlj hbl
      go_wp2_with fail
      ((refine hcall.out.mono ?_); rintro r9 w9 ⟨rfl, wv9, hB9⟩)
      have hfin := hid (hBr.trans (Bld.before hbk hbwr hB9))
      clear hB9 hcall hwk z0 z1 z2 z3 q0 q1 q2 q3
      go_wp2_with fail
      go_roundw
      case rel => exact ⟨j + 1, wv9, by omega, by go_num, by rw [Hnext.out]; exact hfin.out⟩
      case measure => simp [intOf]; omega
    · obtain rfl : j = M := by omega
      have hfin := hid (show Bld w wr B sv base wv wvr (foldI G 0 k.kids W0) by rw [foldI_all _ _ _ _ (by rw [HM.out]; exact Nat.le_refl _)] at hBr; exact hBr)
      clear hBr
      go_wp2_with fail
      go_returns
      exact ⟨rfl, wvr, hfin.out⟩
set_option maxRecDepth 100000 in
set_option maxHeartbeats 8000000 in
theorem fieldg_kids5 (s : Schema) (sv : Value) (d left : Nat) (hfields : FieldsC s sv d left) (kd ty : Int) (hkd : kd = 5) (k : Node (St d)) (c2 c3 : Value) (p B base : Nat) (wv : Value) (ws : List (BitVec 64)) (w0 w : World) (hs : Sch w0 sv s) (hnf : 0 < (typeL s ty).length) (hb : hasB kd k = true) (hx : ∀ x ∈ k.kids, codeT s d left ty x = 0)
    (hrd : RdN (RdS d) w0 [U k.num, .string k.bytes, c2, c3] k) (h0 : w0.heap.size ≤ base) (hb0 : Below base w0 w) (hbB : base ≤ B) (hBB : BB w B sv base wv ws) (hp : p < ws.length) (hlen : ws.length + fszT d k ≤ 1000) :
    Calls Tryd.prog 18 #[.pointer (some ⟨B, 0, none⟩), .int .i64 kd, .int .i64 ty, .agg #[U k.num, .string k.bytes, c2, c3], .int .i64 p] w (FieldP w B sv base wv (fieldW (typeL s ty).length (bldW s d ty) kd k p ws)) := by
  obtain ⟨iU, hiU, hzU, hsU, hbU⟩ := info_parts (show (Tryd.prog.info? 28).map (fun i => (i.zero, i.size, i.bytes)) = some (some (.int .u64 0), 1, 8) by kernel_rfl)
  obtain ⟨a2, p2, a3, p3, hcs, -, -, hkk, -, hkm⟩ := hrd.open
  simp only [List.cons.injEq, and_true] at hcs
  obtain ⟨-, -, rfl, rfl⟩ := hcs
  have hm12 := (hasB_kids hb (by omega) (by omega) (by omega)).2.2.2.2
  have hfz : fszT d k = (k.bytes.size + 7) / 8 + k.nums.length + sumL (wordsT d) k.kids := rfl
  have hsw := sum_words k.kids hx
  have hl0 : (layW p k.kids.length (List.replicate ((typeL s ty).length * k.kids.length) 0#64) ws).length = ws.length + (typeL s ty).length * k.kids.length := by
    rw [layW_len _ _ _ _ (fun e => by rw [e]; simp), List.length_replicate]
  have Hlen := hid (fun j hj => kids_len k.kids hx (fun x ws p h => bld_len d left ty x ws p h) (fun j => ws.length + (typeL s ty).length * j) (layW p k.kids.length (List.replicate ((typeL s ty).length * k.kids.length) 0#64) ws) j hj)
  rw [hl0] at Hlen
  obtain ⟨W0, hW0⟩ : ∃ W0, W0 = layW p k.kids.length (List.replicate ((typeL s ty).length * k.kids.length) 0#64) ws := ⟨_, rfl⟩
  obtain ⟨L, hL⟩ : ∃ L, L = ws.length := ⟨_, rfl⟩
  obtain ⟨G, hG⟩ : ∃ G : Nat → St d → List (BitVec 64) → List (BitVec 64), G = fun (j : Nat) x w => bldW s d ty x w (L + (typeL s ty).length * j) := ⟨_, rfl⟩
  have Hfw := hid (show fieldW (typeL s ty).length (bldW s d ty) kd k p ws = foldI G 0 k.kids W0 by
    unfold fieldW
    rw [if_neg (by omega), if_neg (by omega), if_neg (by omega), hG, hW0, hL])
  rw [Hfw.out]
  have HG := hid hG
  rw [← hW0, ← hL, ← hG] at Hlen
  have HL := hid hL
  have hbw : base ≤ w.heap.size := hBB.base hbB
  obtain ⟨w1, hw1, hb1, hz1, hK⟩ := TB.make w (U k.num) (.string k.bytes) (.slice a2 k.nums.length p2) (.slice a3 k.kids.length p3) 32
  have k3 := hK.c3
  have hbr1 := hb0.trans (hb1.mono hbw)
  have hfields1 := nfields_any s sv ty w1 (hs.below hbr1 h0)
  obtain ⟨nf, hnfe⟩ : ∃ nf, nf = (typeL s ty).length := ⟨_, rfl⟩
  obtain ⟨M, hM⟩ : ∃ M, M = k.kids.length := ⟨_, rfl⟩
  have HM := hid hM
  have Hnf := hid hnfe
  have HW0 := hid hW0
  have Hx := hid hx
  have Hkk := hid hkk
  have Hs0 := hid hs
  have HB0 := hid hb0
  have Hfields := hid hfields
  rw [← hnfe] at hfields1 hsw hnf Hlen HW0 HG
  rw [← hM] at hw1 k3 hK hm12 hsw Hlen HW0 Hkk hkm ⊢
  have hnfM : nf * M ≤ 1000 := by omega
  have HA := hid fun W (hW : Below w1.heap.size w1 W) => show BB W B sv base wv ws ∧ TB W w.heap.size (U k.num) (.string k.bytes) (.slice a2 k.nums.length p2) (.slice a3 M p3) from ⟨(hBB.below hb1).below hW, hK.below hW⟩
  have Hown := hid fun g (e : wv.ownBlock = some g) => hBB.own_lt e
  have hBl := hBB.lt
  have c0 := (hBB.below hb1).c0
  have hmul : IntKind.i64.wrap ((nf : Int) * (M : Int)) = ((nf * M : Nat) : Int) := by
    rw [Int.natCast_mul]
    have : ((nf * M : Nat) : Int) ≤ 1000 := by omega
    rw [Int.natCast_mul] at this
    have h2 : (0 : Int) ≤ (nf : Int) * (M : Int) := by rw [← Int.natCast_mul]; omega
    exact IntWalk.i64_in _ (by omega)
  have hLl : L + nf * M + sumL (belowT d) k.kids ≤ 1000 := by omega
  rw [← hL] at hp
  clear hs hb0 hx hkk hrd hb hBB hz1 hK hW0 hG hsw hfz hl0 hfields hlen hL hM hnfe
  subst hkd
  go_enter Tryd.func18, Tryd.ntmps18
  go_wp2_with fail
  ((refine hfields1.mono ?_); rintro r2 w1 ⟨rfl, rfl⟩)
  go_wp2_with fail
  clear hw1 c0
  refine wp_region_held_drew (S := (fun W => W.cell? ⟨w.heap.size, 3, none⟩ = some (.slice a3 M p3))) (by kernel_rfl) ?_ (fun hHeld => ?_)
  · exact k3
  refine wpAnyH_take (i := 0) (oi := { dst := some 56, op := Op.move (Operand.tmp 0), type := 57, pos := "build.go:56", after := #[], guard := none }) (v := ?vm0) rfl (by kernel_rfl) (by kernel_rfl) (by kernel_rfl) (fun _ _ _ h => h) (Or.inl ⟨by rfl, ?hym0⟩) (by assumption) ?restm0
  case hym0 => first | (intro w hSw; (try dsimp only at hSw); go_simp; done) | (intro w hSw; (try dsimp only at hSw); go_simp; with_reducible rfl)
  try simp only [Act.put, List.setIfInBounds_toArray, List.set_cons_zero, List.set_cons_succ]
  refine wpAnyH_take (i := 1) (oi := { dst := some 57, op := Op.move (Operand.tmp 4), type := 3, pos := "build.go:56", after := #[], guard := none }) (v := ?vm1) rfl (by kernel_rfl) (by kernel_rfl) (by kernel_rfl) (fun _ _ _ h => h) (Or.inl ⟨by rfl, ?hym1⟩) (by assumption) ?restm1
  case hym1 => first | (intro w hSw; (try dsimp only at hSw); go_simp; done) | (intro w hSw; (try dsimp only at hSw); go_simp; with_reducible rfl)
  try simp only [Act.put, List.setIfInBounds_toArray, List.set_cons_zero, List.set_cons_succ]
  refine wpAnyH_take (i := 2) (oi := { dst := some 58, op := Op.fieldAddr 32 (Operand.tmp 8) 3, type := 0, pos := "build.go:56", after := #[], guard := none }) (v := ?vm2) rfl (by kernel_rfl) (by kernel_rfl) (by kernel_rfl) (fun _ _ _ h => h) (Or.inl ⟨by rfl, ?hym2⟩) (by assumption) ?restm2
  case hym2 => first | (intro w hSw; (try dsimp only at hSw); go_simp; done) | (intro w hSw; (try dsimp only at hSw); go_simp; with_reducible rfl)
  try simp only [Act.put, List.setIfInBounds_toArray, List.set_cons_zero, List.set_cons_succ]
  refine wpAnyH_take (i := 3) (oi := { dst := some 59, op := Op.load 30 (Operand.tmp 58), type := 30, pos := "build.go:56", after := #[{ on := 2, ground := Ground.data }], guard := none }) (v := ?vm3) rfl (by kernel_rfl) (by kernel_rfl) (by kernel_rfl) (fun _ _ _ h => h) (Or.inl ⟨by rfl, ?hym3⟩) (by assumption) ?restm3
  case hym3 => first | (intro w hSw; (try dsimp only at hSw); go_simp; done) | (intro w hSw; (try dsimp only at hSw); go_simp; with_reducible rfl)
  try simp only [Act.put, List.setIfInBounds_toArray, List.set_cons_zero, List.set_cons_succ]
  refine wpAnyH_take (i := 4) (oi := { dst := some 60, op := Op.call { callee := Callee.builtin Builtin.len, args := #[Operand.tmp 59], argTypes := #[30] }, type := 3, pos := "build.go:56", after := #[{ on := 3, ground := Ground.data }], guard := none }) (v := ?vm4) rfl (by kernel_rfl) (by kernel_rfl) (by kernel_rfl) (fun _ _ _ h => h) (Or.inl ⟨by rfl, ?hym4⟩) (by assumption) ?restm4
  case hym4 => first | (intro w hSw; (try dsimp only at hSw); go_simp; done) | (intro w hSw; (try dsimp only at hSw); go_simp; with_reducible rfl)
  try simp only [Act.put, List.setIfInBounds_toArray, List.set_cons_zero, List.set_cons_succ]
  refine wpAnyH_take (i := 5) (oi := { dst := some 61, op := Op.move (Operand.tmp 10), type := 3, pos := "build.go:56", after := #[], guard := none }) (v := ?vm5) rfl (by kernel_rfl) (by kernel_rfl) (by kernel_rfl) (fun _ _ _ h => h) (Or.inl ⟨by rfl, ?hym5⟩) (by assumption) ?restm5
  case hym5 => first | (intro w hSw; (try dsimp only at hSw); go_simp; done) | (intro w hSw; (try dsimp only at hSw); go_simp; with_reducible rfl)
  try simp only [Act.put, List.setIfInBounds_toArray, List.set_cons_zero, List.set_cons_succ]
  refine wpAnyH_take (i := 6) (oi := { dst := some 62, op := Op.fieldAddr 32 (Operand.tmp 8) 3, type := 0, pos := "build.go:56", after := #[], guard := none }) (v := ?vm6) rfl (by kernel_rfl) (by kernel_rfl) (by kernel_rfl) (fun _ _ _ h => h) (Or.inl ⟨by rfl, ?hym6⟩) (by assumption) ?restm6
  case hym6 => first | (intro w hSw; (try dsimp only at hSw); go_simp; done) | (intro w hSw; (try dsimp only at hSw); go_simp; with_reducible rfl)
  try simp only [Act.put, List.setIfInBounds_toArray, List.set_cons_zero, List.set_cons_succ]
  refine wpAnyH_take (i := 7) (oi := { dst := some 63, op := Op.load 30 (Operand.tmp 62), type := 30, pos := "build.go:56", after := #[{ on := 6, ground := Ground.data }], guard := none }) (v := ?vm7) rfl (by kernel_rfl) (by kernel_rfl) (by kernel_rfl) (fun _ _ _ h => h) (Or.inl ⟨by rfl, ?hym7⟩) (by assumption) ?restm7
  case hym7 => first | (intro w hSw; (try dsimp only at hSw); go_simp; done) | (intro w hSw; (try dsimp only at hSw); go_simp; with_reducible rfl)
  try simp only [Act.put, List.setIfInBounds_toArray, List.set_cons_zero, List.set_cons_succ]
  refine wpAnyH_take (i := 8) (oi := { dst := some 64, op := Op.call { callee := Callee.builtin Builtin.len, args := #[Operand.tmp 63], argTypes := #[30] }, type := 3, pos := "build.go:56", after := #[{ on := 7, ground := Ground.data }], guard := none }) (v := ?vm8) rfl (by kernel_rfl) (by kernel_rfl) (by kernel_rfl) (fun _ _ _ h => h) (Or.inl ⟨by rfl, ?hym8⟩) (by assumption) ?restm8
  case hym8 => first | (intro w hSw; (try dsimp only at hSw); go_simp; done) | (intro w hSw; (try dsimp only at hSw); go_simp; with_reducible rfl)
  try simp only [Act.put, List.setIfInBounds_toArray, List.set_cons_zero, List.set_cons_succ]
  refine wpAnyH_take (i := 9) (oi := { dst := some 65, op := Op.binOp BinOp.mul 3 (Operand.tmp 61) (Operand.tmp 64) 3, type := 3, pos := "build.go:56", after := #[{ on := 5, ground := Ground.data }, { on := 8, ground := Ground.data }], guard := none }) (v := ?vm9) rfl (by kernel_rfl) (by kernel_rfl) (by kernel_rfl) (fun _ _ _ h => h) (Or.inl ⟨by rfl, ?hym9⟩) (by assumption) ?restm9
  case hym9 => first | (intro w hSw; (try dsimp only at hSw); go_simp; done) | (intro w hSw; (try dsimp only at hSw); go_simp; with_reducible rfl)
  try simp only [Act.put, List.setIfInBounds_toArray, List.set_cons_zero, List.set_cons_succ]
  refine wpAnyH_ready (rs := [10]) (by kernel_rfl) (by simp) ?_
  refine AllReadyH.cons (o := { dst := some 66, op := Op.makeSlice 29 (Operand.tmp 65) (Operand.tmp 65), type := 29, pos := "build.go:56", after := #[{ on := 9, ground := Ground.data }, { on := 9, ground := Ground.data }], guard := none }) rfl (fun K hK => ?_) AllReadyH.nil
  rw [if_pos (by rfl)]
  refine wp_make_full _ (.tmp 65) (.tmp 65) 29 rfl w1.heap.size 28 iU _ 1 Tryd.underlying29 hiU hzU hsU .i64 .i64 _ _ (nf * M) rfl rfl rfl rfl (by rw [hbU]; omega) (by unfold maxLen; omega) (Nat.le_refl _) ?_
  intro w5 ho5 hg5
  have hb5 : Below w1.heap.size w1 w5 := (below_drewN _ w1 1).trans ((Below.refl _ _).grown hg5 (Nat.le_refl _) (fun q e => by cases e))
  have hab5 := hb5
  have hob5 : w5.ownsRow w1.heap.size 28 1 (.slice (some ⟨w1.heap.size, 0, none⟩) (nf * M) (nf * M)) (nf * M) ((List.replicate (nf * M) 0#64).map U) := by
    have := ho5
    rw [Nat.mul_one, show (Value.int IntKind.u64 0).cells = #[.int .u64 0] from rfl, toList_madeCells_one] at this
    rw [List.map_replicate]
    exact this
  refine hK.out _ _ ?_ (fun hHeld => ?_)
  · exact (HA.out _ hab5).2.c3
  clear hK K
  try simp only [Act.put, List.setIfInBounds_toArray, List.set_cons_zero, List.set_cons_succ]
  refine wpAnyH_ready (rs := [11]) (by kernel_rfl) (by simp) ?_
  refine AllReadyH.cons (o := { dst := some 67, op := Op.call { callee := Callee.value (Operand.func 36), args := #[Operand.tmp 56, Operand.tmp 57, Operand.tmp 60, Operand.tmp 66], argTypes := #[57, 3, 3, 29] }, type := 3, pos := "build.go:56", after := #[{ on := 0, ground := Ground.data }, { on := 1, ground := Ground.data }, { on := 4, ground := Ground.data }, { on := 10, ground := Ground.data }], guard := none }) rfl (fun K hK => ?_) AllReadyH.nil
  have hlay5 := hid (show Calls _ _ _ w5 (fun e w' => e = .returned (.int .i64 ((ws.length : Nat) : Int)) ∧ ∃ wv', Bld w5 w' B sv base wv wv' (layW p M (List.replicate (nf * M) 0#64) ws)) from lay_any p M (by omega) (List.replicate (nf * M) 0#64) (fun h => by rw [List.length_replicate]; exact Nat.mul_pos hnf h) (by rw [List.length_replicate]; omega) B base sv _ wv ws w5 (by have := HL.out; omega) (by rw [← HL.out]; exact hp) (HA.out _ hab5).1 hbB (by rw [List.length_replicate]; exact Row.of_owns hob5) (fun _ b off m c e e2 => by
    simp only [Value.slice.injEq, Option.some.injEq, Addr.mk.injEq] at e
    have h1 := (Hown.out _ e2).1
    have h2 := hb1.size
    omega))
  rw [← HL.out] at hlay5
  go_simp
  ((refine hlay5.out.mono ?_); rintro r7 w7 ⟨rfl, ⟨wv7, hB7⟩⟩)
  refine hK.out _ _ ?_ (fun hHeld => ?_)
  · exact ((HA.out _ hab5).2.of_block (hB7.keep _ (HA.out _ hab5).2.lt (by omega) (fun e => by have := (Hown.out _ e).1; omega)) (Nat.lt_of_lt_of_le (HA.out _ hab5).2.lt hB7.below.size)).c3
  clear hK K
  try simp only [Act.put, List.setIfInBounds_toArray, List.set_cons_zero, List.set_cons_succ]
  refine wpAnyH_take (i := 12) (oi := { dst := some 11, op := Op.assign (Operand.tmp 67), type := 3, pos := "build.go:56", after := #[{ on := 11, ground := Ground.data }, { on := 11, ground := Ground.chain }, { on := 0, ground := Ground.phase }, { on := 1, ground := Ground.phase }, { on := 2, ground := Ground.phase }, { on := 3, ground := Ground.phase }, { on := 4, ground := Ground.phase }, { on := 5, ground := Ground.phase }, { on := 6, ground := Ground.phase }, { on := 7, ground := Ground.phase }, { on := 8, ground := Ground.phase }, { on := 9, ground := Ground.phase }, { on := 10, ground := Ground.phase }, { on := 11, ground := Ground.phase }], guard := none }) (v := ?vm12) rfl (by kernel_rfl) (by kernel_rfl) (by kernel_rfl) (fun _ _ _ h => h) (Or.inl ⟨by rfl, ?hym12⟩) (by assumption) ?restm12
  case hym12 => first | (intro w hSw; (try dsimp only at hSw); go_simp; done) | (intro w hSw; (try dsimp only at hSw); go_simp; with_reducible rfl)
  try simp only [Act.put, List.setIfInBounds_toArray, List.set_cons_zero, List.set_cons_succ]
  refine wpAnyH_done (by kernel_rfl) ?_ _
  have hbA := via hb1 hab5
  have k4 := ((HA.out _ hab5).2.of_block (hB7.keep _ (HA.out _ hab5).2.lt (by omega) (fun e => by have := (Hown.out _ e).1; omega)) (Nat.lt_of_lt_of_le (HA.out _ hab5).2.lt hB7.below.size)).c3
  have hBld : Bld w w7 B sv base wv wv7 W0 := by rw [HW0.out]; exact Bld.before hbA hbw hB7
  clear hB7 hHeld HA k3 hfields1 hmul hab5 hbA hb5 hob5 hg5
  go_wp2_with fail
  go_loopw [71] (fun i wr => ∃ (j : Nat) (wvr : Value), j ≤ M ∧ i = .int .i64 j ∧ Bld w wr B sv base wv wvr (foldI G 0 (k.kids.take j) W0)) (fun i _ => M - (intOf i).toNat)
  case atStart => exact ⟨0, wv7, Nat.zero_le _, rfl, hBld⟩
  case round =>
    clear hBld k4
    obtain ⟨j, wvr, hjM, rfl, hBr⟩ := hrel
    by_cases hlt : j < M
    · obtain ⟨x, hxj⟩ := get_lt (l := k.kids) (i := j) (by rw [← HM.out]; exact hlt)
      obtain ⟨b2, off2, xn, xb, e2, m2, t2, e3, m3, t3, rfl, hbb2, q0, q1, q2, q3, hrx⟩ := Kids.atS Hkk.out hxj
      have hbr := HB0.out.trans hBr.below
      have hbb3 : b2 < base := Nat.lt_of_lt_of_le hbb2 h0
      replace q0 := (hbr.cell hbb3).trans q0
      replace q1 := (hbr.cell hbb3).trans q1
      replace q2 := (hbr.cell hbb3).trans q2
      replace q3 := (hbr.cell hbb3).trans q3
      have hcx := Hx.out x (List.mem_of_getElem? hxj)
      have hnk : nkT d x = nf := by rw [Hnf.out]; exact nk_code hcx
      have hlj := Hlen.out j hjM
      have hbl := sumL_take_at (belowT d) k.kids j x hxj
      have Hnext := hid ((foldI_succ G k.kids j x W0 hxj).trans (show G j x (foldI G 0 (k.kids.take j) W0) = bldW s d ty x (foldI G 0 (k.kids.take j) W0) (L + nf * j) by rw [HG.out]))
      generalize foldI G 0 (k.kids.take j) W0 = V at *
      have hmj : nf * j + nf ≤ nf * M := by rw [← Nat.mul_succ]; exact Nat.mul_le_mul_left _ hlt
      have hbwr : base ≤ wr.heap.size := hBr.bb.base hbB
      obtain ⟨wk, hwk, hbk, hltk, hboxk⟩ := boxed wr #[U xn, .string xb, .slice e2 m2 t2, .slice e3 m3 t3] 32
      have z0 : wk.cell? ⟨wr.heap.size, 0, none⟩ = some (U xn) := hboxk 0
      have z1 : wk.cell? ⟨wr.heap.size, 1, none⟩ = some (.string xb) := hboxk 1
      have z2 : wk.cell? ⟨wr.heap.size, 2, none⟩ = some (.slice e2 m2 t2) := hboxk 2
      have z3 : wk.cell? ⟨wr.heap.size, 3, none⟩ = some (.slice e3 m3 t3) := hboxk 3
      have hcall := hid (Hfields.out ty x _ (L + nf * j) B base wvr V w0 wk Hs0.out hcx hrx h0 (hbr.trans (hbk.mono hbwr)) hbB (hBr.bb.below hbk) (by omega) (by omega))
      rw [Int.natCast_add, Int.natCast_mul] at hcall
      have hnj : ((nf * j : Nat) : Int) ≤ 1000 := by omega
      rw [Int.natCast_mul] at hnj
      have hnj0 : (0 : Int) ≤ (nf : Int) * (j : Int) := by rw [← Int.natCast_mul]; omega
      have hL1 : (L : Int) ≤ 1000 := by omega
      clear hboxk hxj hrx hcx hnk hlj hbl
      go_wp2_with fail
      ((refine hcall.out.mono ?_); rintro r9 w9 ⟨rfl, wv9, hB9⟩)
      have hfin := hid (hBr.trans (Bld.before hbk hbwr hB9))
      clear hB9 hcall hwk z0 z1 z2 z3 q0 q1 q2 q3
      go_wp2_with fail
      go_roundw
      case rel => exact ⟨j + 1, wv9, by omega, by go_num, by rw [Hnext.out]; exact hfin.out⟩
      case measure => simp [intOf]; omega
    · obtain rfl : j = M := by omega
      have hfin := hid (show Bld w wr B sv base wv wvr (foldI G 0 k.kids W0) by rw [foldI_all _ _ _ _ (by rw [HM.out]; exact Nat.le_refl _)] at hBr; exact hBr)
      clear hBr
      go_wp2_with fail
      go_returns
      exact ⟨rfl, wvr, hfin.out⟩

theorem field_of (s : Schema) (sv : Value) (d left : Nat) (hfields : FieldsC s sv d left) : FieldC s sv d left := by
  intro kd ty k c2 c3 p B base wv ws w0 w hs hnf hb hx hrd h0 hb0 hbB hBB hp hlen
  by_cases k1 : kd = 1
  · subst k1
    exact fieldg_num s sv d left ty k c2 c3 p B base wv ws w hbB hBB hp hlen
  by_cases k2 : kd = 2
  · subst k2
    exact fieldg_bytes s sv d left ty k c2 c3 p B base wv ws w0 w hb hrd h0 hb0 hbB hBB hp hlen
  by_cases k3 : kd = 3
  · subst k3
    exact fieldg_nums s sv d left ty k c2 c3 p B base wv ws w0 w hb hrd h0 hb0 hbB hBB hp hlen
  have k45 := hasV_kd hb k1 k2 k3
  rcases k45 with k4 | k5
  · exact fieldg_kids4 s sv d left hfields kd ty k4 k c2 c3 p B base wv ws w0 w hs (hnf (by omega)) hb hx hrd h0 hb0 hbB hBB hp hlen
  · exact fieldg_kids5 s sv d left hfields kd ty k5 k c2 c3 p B base wv ws w0 w hs (hnf (by omega)) hb hx hrd h0 hb0 hbB hBB hp hlen
theorem fields_all (s : Schema) (hr : rightB s = true) (sv : Value) : ∀ d left, FieldsC s sv d left := by
  intro d
  induction d with
  | zero => exact fun _ _ v => nomatch v
  | succ d ih => exact fun left => bfields_step s hr sv d left (field_of s sv d (left - 1) (ih (left - 1)))
end SBFieldsG

section SBBuildG
open Go.RowKit

/-- What Build finds, and the words. -/
def buildE (s : Schema) (d : Nat) (t : Int) (v : St (d + 1)) : Int := if checkC s (d + 1) t v = 0 then (if 1 + wordsT (d + 1) v ≤ 200 then 0 else 21) else checkC s (d + 1) t v
def buildL (s : Schema) (d : Nat) (t : Int) (v : St (d + 1)) : List (BitVec 64) := if buildE s d t v = 0 then buildW s d t v else []
def BuildP (s : Schema) (d : Nat) (t : Int) (v : St (d + 1)) (w : World) (e : Ending) (w' : World) : Prop := ∃ wv, e = .returned (.tuple #[wv, ErrV (buildE s d t v)]) ∧ Row w' 1 wv (buildL s d t v).length ((buildL s d t v).map U) ∧ Below w.heap.size w w'

@[go_sem] theorem run_build_bb (a b : Option Addr) (n c m d : Nat) (w : World) : (Instr.build 59 #[(0, .slice a n c), (1, .slice b m d)]).run Tryd.prog w = .ok (.agg #[.slice a n c, .slice b m d]) w := run_build w 59 _ _ (by kernel_rfl)

theorem madeU (n : Nat) : (madeCells (Value.int .u64 0).cells (n * 1)).toList = (List.replicate n 0#64).map U := by
  rw [show (Value.int IntKind.u64 0).cells = #[.int .u64 0] from rfl, toList_madeCells_one, Nat.mul_one, List.map_replicate]
  rfl
theorem bb_new {w : World} {base g n cap : Nat} {ws : List (BitVec 64)} (sv : Value) (T : TypeId) (hn : n = ws.length) (ho : w.ownsRow base 28 1 (.slice (some ⟨g, 0, none⟩) n cap) n (ws.map U)) :
    BB (w.alloc (.cells #[sv, .slice (some ⟨g, 0, none⟩) n cap] T)) w.heap.size sv base (.slice (some ⟨g, 0, none⟩) n cap) ws := by
  subst hn
  refine ⟨by simp, by simp, by simp, fun j => by simp [go_sem], own_beneath ho (below_alloc _ _), fun e => ?_⟩
  have h1 := (own_blk ho (g := g) rfl).1.lt
  have h2 : g = w.heap.size := Option.some.inj (show some g = some w.heap.size from e)
  omega
theorem nil_words (w : World) : Row w 1 (.slice none 0 0) ([] : List (BitVec 64)).length (([] : List (BitVec 64)).map U) := Row.nil w 1

set_option maxRecDepth 100000 in
set_option maxHeartbeats 8000000 in
theorem build_any (s : Schema) (sv : Value) (d : Nat) (t : Int) (v : St (d + 1)) (cs : List Value) (w : World) (hs : Sch w sv s) (h : RdS (d + 1) w cs v) :
    Calls Tryd.prog 6 #[sv, .int .i64 t, .agg cs.toArray] w (BuildP s d t v w) := by
  obtain ⟨iU, hiU, hzU, hsU, hbU⟩ := info_parts (show (Tryd.prog.info? 28).map (fun i => (i.zero, i.size, i.bytes)) = some (some (.int .u64 0), 1, 8) by kernel_rfl)
  obtain ⟨a2, p2, a, cap, hcs, -, -, -, -, hkm⟩ := RdN.open h
  subst hcs
  obtain ⟨sa, scap, hsv, -⟩ := hs.shape
  obtain ⟨sn, hsn⟩ : ∃ n, n = s.length := ⟨_, rfl⟩
  rw [← hsn] at hsv
  subst hsv
  clear hsn
  obtain ⟨N, hN⟩ : ∃ N, N = (Node.kids v).length := ⟨_, rfl⟩
  have HN := hid hN
  rw [← hN] at h hkm ⊢
  clear hN
  obtain ⟨w1, hw1, hb1, hz1, hV⟩ := TB.make w (U (Node.num v)) (.string (Node.bytes v)) (.slice a2 (Node.nums v).length p2) (.slice a N cap) 32
  have hck := hid (tcheck_any s (.slice sa sn scap) (d + 1) t v _ w1 (hs.below hb1 (Nat.le_refl _)) (h.below hb1 (Nat.le_refl _)))
  have hsz := hid fun W (hW : Below w.heap.size w W) => tsize_any s (.slice sa sn scap) (d + 1) t v _ W (hs.below hW (Nat.le_refl _)) (h.below hW (Nat.le_refl _))
  have v0 := hV.c0
  have v1 := hV.c1
  have v2 := hV.c2
  have v3 := hV.c3
  have HV := hid fun W (hW : Below w1.heap.size w1 W) => hV.below hW
  have Hnew := hid fun (x : Int) W => new_err x W
  have Hbf := hid fun (hr : rightB s = true) (hc : codeT s (d + 1) 5 t v = 0) w3 (h3 : Below w.heap.size w w3) W (hW : Below w3.heap.size w3 W) B wv ws (hbB : w3.heap.size ≤ B) hBB hp hlen => fields_all s hr (.slice sa sn scap) (d + 1) 5 t v _ 1 B w3.heap.size wv ws w3 W (hs.below h3 (Nat.le_refl _)) hc (h.below h3 (Nat.le_refl _)) (Nat.le_refl _) hW hbB hBB hp hlen
  clear hV hs h hz1
  obtain ⟨x, hx⟩ : ∃ x, x = checkC s (d + 1) t v := ⟨_, rfl⟩
  have Hx := hid hx
  rw [← hx] at hck
  clear hx
  by_cases hx0 : x = 0
  · subst hx0
    have hchk := Hx.out
    rw [checkC] at hchk
    split at hchk
    case isFalse => exact absurd hchk (by decide)
    case isTrue hrt =>
    have Hcode := hid hchk.symm
    have Hright := hid hrt.1
    obtain ⟨z, hz⟩ : ∃ z, z = 1 + wordsT (d + 1) v := ⟨_, rfl⟩
    have Hz := hid hz
    have hzT : sizeT s (d + 1) t v = z := by rw [sizeT, if_pos Hx.out.symm, hz]
    rw [hzT] at hsz
    rw [show ErrV 0 = .nilIface from rfl] at hck
    clear hchk hrt hz hzT
    by_cases hz2 : z ≤ 200
    · have HE := hid (show buildE s d t v = 0 by rw [buildE, if_pos Hx.out.symm, if_pos (by rw [← Hz.out]; exact hz2)])
      have HL := hid (show buildL s d t v = buildW s d t v by rw [buildL, if_pos HE.out])
      have hzd : (z : Int) ≤ 200 := by omega
      have Hlen := hid (bld_len (d + 1) 5 t v (List.replicate (1 + N) 0#64) 1 Hcode.out)
      have Hwb := hid (words_below (d + 1) v)
      have Hz1 : z = (bldW s (d + 1) t v (List.replicate (1 + N) 0#64) 1).length := by
        rw [Hlen.out, List.length_replicate, Hz.out, Hwb.out, show nkT (d + 1) v = N from HN.out.symm]
        omega
      have hbl : 1 + N + belowT (d + 1) v = z := by rw [Hz1, Hlen.out, List.length_replicate]
      have Hbw := hid (show buildW s d t v = (bldW s (d + 1) t v (List.replicate (1 + N) 0#64) 1).set 0 (refV (z : Int) t) by
        unfold buildW
        rw [← HN.out]
        show (bldW s (d + 1) t v (List.replicate (1 + N) 0#64) 1).set 0 (refV (((bldW s (d + 1) t v (List.replicate (1 + N) 0#64) 1).length : Nat) : Int) t) = _
        rw [← Hz1])
      have HZ := hid Hz1
      have hRef := hid fun W => ref_any (z : Int) t W
      clear Hz1
      go_enter Tryd.func6, Tryd.ntmps6
      go_wp2_with fail
      ((refine hck.out.mono ?_); rintro r2 w2 ⟨rfl, hb2⟩)
      have hB2 := hb1.trans (hb2.mono hb1.size)
      replace hsz := hsz.out w2 hB2
      have ⟨_, u0, u1, u2, u3, _⟩ := HV.out w2 hb2
      clear hck v0 v1 v2 v3 hw1
      go_wp2_with fail
      ((refine hsz.mono ?_); rintro r3 w3 ⟨rfl, hb3⟩)
      have hB3 := via hB2 hb3
      replace Hbf := hid (Hbf.out Hright.out Hcode.out w3 hB3)
      have ⟨_, t0, t1, t2, t3, _⟩ := HV.out w3 (hb2.trans (hb3.mono hb2.size))
      clear hsz u0 u1 u2 u3
      go_wp2_with ((refine wpList_make_full _ rfl (.tmp 27) (.tmp 27) 29 rfl w3.heap.size 28 iU _ 1 Tryd.underlying29 hiU hzU hsU .i64 .i64 _ _ (1 + N) rfl rfl (by omega) (by omega) (by rw [hbU]; omega) (by unfold maxLen; omega) (Nat.le_refl _) ?_); intro w5 ho5 hg5; have hb5 : Below w3.heap.size w3 w5 := (Below.refl _ w3).grown hg5 (Nat.le_refl _) (fun q e => by cases e); have hs5 := hb5.size; have HT := hid fun W (hW : Below w3.heap.size w3 W) => (HV.out w3 (hb2.trans (hb3.mono hb2.size))).below hW; rw [madeU] at ho5; have hBB6 := bb_new (.slice sa sn scap) 59 (n := 1 + N) (ws := List.replicate (1 + N) 0#64) (by rw [List.length_replicate]) ho5; have hb6 := hb5.trans ((below_alloc w5 (.cells #[.slice sa sn scap, .slice (some ⟨w3.heap.size, 0, none⟩) (1 + N) (1 + N)] 59)).mono hs5); obtain ⟨w6, hw6⟩ : ∃ w6, w5.alloc (.cells #[.slice sa sn scap, .slice (some ⟨w3.heap.size, 0, none⟩) (1 + N) (1 + N)] 59) = w6 := ⟨_, rfl⟩; rw [hw6] at hBB6 hb6; replace Hbf := hid (Hbf.out _ hb6 _ _ _ hs5 hBB6 (by rw [List.length_replicate, show nkT (d + 1) v = N from HN.out.symm]; exact Nat.le_refl _) (by rw [List.length_replicate]; omega)); have ⟨_, p0, p1, p2, p3, _⟩ := HT.out _ hb6; clear t0 t1 t2 t3)
      ((refine Hbf.out.mono ?_); rintro r7 w7 ⟨rfl, wv7, hB7⟩)
      generalize bldW s (d + 1) t v (List.replicate (1 + N) 0#64) 1 = W7 at *
      obtain ⟨g7, c7, rfl, hgb, -, -, -⟩ := hB7.bb.at_ (by have := HZ.out; omega)
      rw [← HZ.out] at hB7
      have hBB7 := hB7.bb
      have hB37 := hb6.trans hB7.below
      have c71 := hBB7.c1
      have hz0 : 0 < z := by omega
      clear Hbf p0 p1 p2 p3 hw6 hB7
      go_wp2_with fail
      refine wp_region_held_drew (S := (fun W => W.cell? ⟨w5.heap.size, 1, none⟩ = some (.slice (some ⟨g7, 0, none⟩) z c7) ∧ (BB W w5.heap.size (.slice sa sn scap) w3.heap.size (.slice (some ⟨g7, 0, none⟩) z c7) W7 ∨ BB W w5.heap.size (.slice sa sn scap) w3.heap.size (.slice (some ⟨g7, 0, none⟩) z c7) (W7.set 0 (refV (z : Int) t))) ∧ Below w3.heap.size w7 W)) (by kernel_rfl) ?_ (fun hHeld => ?_)
      · exact LayS.start (hBB7.below (below_drewN _ _ 1)) (below_drewN _ _ 1)
      refine wpAnyH_take (i := 0) (oi := { dst := some 37, op := Op.move (Operand.tmp 9), type := 57, pos := "build.go:74", after := #[], guard := none }) (v := ?ve0) rfl (by kernel_rfl) (by kernel_rfl) (by kernel_rfl) (fun _ _ _ h => h) (Or.inl ⟨by rfl, ?hye0⟩) (by assumption) ?reste0
      case hye0 => first | (intro w hSw; (try dsimp only at hSw); go_simp; done) | (intro w hSw; (try dsimp only at hSw); go_simp; with_reducible rfl)
      try simp only [Act.put, List.setIfInBounds_toArray, List.set_cons_zero, List.set_cons_succ]
      refine wpAnyH_take (i := 1) (oi := { dst := some 38, op := Op.nilCheck (Operand.tmp 37), type := 0, pos := "build.go:74", after := #[{ on := 0, ground := Ground.data }], guard := none }) (v := ?ve1) rfl (by kernel_rfl) (by kernel_rfl) (by kernel_rfl) (fun _ _ _ h => h) (Or.inl ⟨by rfl, ?hye1⟩) (by assumption) ?reste1
      case hye1 => first | (intro w hSw; (try dsimp only at hSw); go_simp; done) | (intro w hSw; (try dsimp only at hSw); go_simp; with_reducible rfl)
      try simp only [Act.put, List.setIfInBounds_toArray, List.set_cons_zero, List.set_cons_succ]
      refine wpAnyH_take (i := 2) (oi := { dst := some 39, op := Op.fieldAddr 59 (Operand.tmp 38) 1, type := 0, pos := "build.go:74", after := #[{ on := 1, ground := Ground.data }], guard := none }) (v := ?ve2) rfl (by kernel_rfl) (by kernel_rfl) (by kernel_rfl) (fun _ _ _ h => h) (Or.inl ⟨by rfl, ?hye2⟩) (by assumption) ?reste2
      case hye2 => first | (intro w hSw; (try dsimp only at hSw); go_simp; done) | (intro w hSw; (try dsimp only at hSw); go_simp; with_reducible rfl)
      try simp only [Act.put, List.setIfInBounds_toArray, List.set_cons_zero, List.set_cons_succ]
      refine wpAnyH_take (i := 3) (oi := { dst := some 40, op := Op.load 29 (Operand.tmp 39), type := 29, pos := "build.go:74", after := #[{ on := 2, ground := Ground.data }], guard := none }) (v := ?ve3) rfl (by kernel_rfl) (by kernel_rfl) (by kernel_rfl) (fun _ _ _ h => h) (Or.inl ⟨by rfl, ?hye3⟩) (by assumption) ?reste3
      case hye3 => first | (intro w hSw; (try dsimp only at hSw); go_simp; done) | (intro w hSw; (try dsimp only at hSw); go_simp; with_reducible rfl)
      try simp only [Act.put, List.setIfInBounds_toArray, List.set_cons_zero, List.set_cons_succ]
      refine wpAnyH_take (i := 4) (oi := { dst := some 41, op := Op.move (Operand.tmp 9), type := 57, pos := "build.go:74", after := #[], guard := none }) (v := ?ve4) rfl (by kernel_rfl) (by kernel_rfl) (by kernel_rfl) (fun _ _ _ h => h) (Or.inl ⟨by rfl, ?hye4⟩) (by assumption) ?reste4
      case hye4 => first | (intro w hSw; (try dsimp only at hSw); go_simp; done) | (intro w hSw; (try dsimp only at hSw); go_simp; with_reducible rfl)
      try simp only [Act.put, List.setIfInBounds_toArray, List.set_cons_zero, List.set_cons_succ]
      refine wpAnyH_take (i := 5) (oi := { dst := some 42, op := Op.nilCheck (Operand.tmp 41), type := 0, pos := "build.go:74", after := #[{ on := 4, ground := Ground.data }], guard := none }) (v := ?ve5) rfl (by kernel_rfl) (by kernel_rfl) (by kernel_rfl) (fun _ _ _ h => h) (Or.inl ⟨by rfl, ?hye5⟩) (by assumption) ?reste5
      case hye5 => first | (intro w hSw; (try dsimp only at hSw); go_simp; done) | (intro w hSw; (try dsimp only at hSw); go_simp; with_reducible rfl)
      try simp only [Act.put, List.setIfInBounds_toArray, List.set_cons_zero, List.set_cons_succ]
      refine wpAnyH_take (i := 6) (oi := { dst := some 43, op := Op.fieldAddr 59 (Operand.tmp 42) 1, type := 0, pos := "build.go:74", after := #[{ on := 5, ground := Ground.data }], guard := none }) (v := ?ve6) rfl (by kernel_rfl) (by kernel_rfl) (by kernel_rfl) (fun _ _ _ h => h) (Or.inl ⟨by rfl, ?hye6⟩) (by assumption) ?reste6
      case hye6 => first | (intro w hSw; (try dsimp only at hSw); go_simp; done) | (intro w hSw; (try dsimp only at hSw); go_simp; with_reducible rfl)
      try simp only [Act.put, List.setIfInBounds_toArray, List.set_cons_zero, List.set_cons_succ]
      refine wpAnyH_take (i := 7) (oi := { dst := some 44, op := Op.load 29 (Operand.tmp 43), type := 29, pos := "build.go:74", after := #[{ on := 6, ground := Ground.data }], guard := none }) (v := ?ve7) rfl (by kernel_rfl) (by kernel_rfl) (by kernel_rfl) (fun _ _ _ h => h) (Or.inl ⟨by rfl, ?hye7⟩) (by assumption) ?reste7
      case hye7 => first | (intro w hSw; (try dsimp only at hSw); go_simp; done) | (intro w hSw; (try dsimp only at hSw); go_simp; with_reducible rfl)
      try simp only [Act.put, List.setIfInBounds_toArray, List.set_cons_zero, List.set_cons_succ]
      refine wpAnyH_take (i := 8) (oi := { dst := some 45, op := Op.call { callee := Callee.builtin Builtin.len, args := #[Operand.tmp 44], argTypes := #[29] }, type := 3, pos := "build.go:74", after := #[{ on := 7, ground := Ground.data }], guard := none }) (v := ?ve8) rfl (by kernel_rfl) (by kernel_rfl) (by kernel_rfl) (fun _ _ _ h => h) (Or.inl ⟨by rfl, ?hye8⟩) (by assumption) ?reste8
      case hye8 => first | (intro w hSw; (try dsimp only at hSw); go_simp; done) | (intro w hSw; (try dsimp only at hSw); go_simp; with_reducible rfl)
      try simp only [Act.put, List.setIfInBounds_toArray, List.set_cons_zero, List.set_cons_succ]
      refine wpAnyH_take (i := 9) (oi := { dst := some 46, op := Op.move (Operand.tmp 1), type := 3, pos := "build.go:74", after := #[], guard := none }) (v := ?ve9) rfl (by kernel_rfl) (by kernel_rfl) (by kernel_rfl) (fun _ _ _ h => h) (Or.inl ⟨by rfl, ?hye9⟩) (by assumption) ?reste9
      case hye9 => first | (intro w hSw; (try dsimp only at hSw); go_simp; done) | (intro w hSw; (try dsimp only at hSw); go_simp; with_reducible rfl)
      try simp only [Act.put, List.setIfInBounds_toArray, List.set_cons_zero, List.set_cons_succ]
      refine wpAnyH_ready (rs := [10]) (by kernel_rfl) (by simp) ?_
      refine AllReadyH.cons (o := { dst := some 47, op := Op.call { callee := Callee.value (Operand.func 19), args := #[Operand.tmp 45, Operand.tmp 46], argTypes := #[3, 3] }, type := 28, pos := "build.go:74", after := #[{ on := 8, ground := Ground.data }, { on := 9, ground := Ground.data }], guard := none }) rfl (fun K hK => ?_) AllReadyH.nil
      go_simp
      ((refine (hRef.out _).mono ?_); rintro r5 w10 ⟨rfl, rfl⟩)
      refine hK.out _ _ ?_ (fun hHeld => ?_)
      · exact hHeld
      clear hK K
      try simp only [Act.put, List.setIfInBounds_toArray, List.set_cons_zero, List.set_cons_succ]
      refine wpAnyH_take (i := 11) (oi := { dst := some 48, op := Op.indexAddr 29 (Operand.tmp 40) (Operand.const (Value.int IntKind.i64 0)), type := 0, pos := "build.go:74", after := #[{ on := 3, ground := Ground.data }, { on := 0, ground := Ground.phase }, { on := 1, ground := Ground.phase }, { on := 2, ground := Ground.phase }, { on := 3, ground := Ground.phase }, { on := 4, ground := Ground.phase }, { on := 5, ground := Ground.phase }, { on := 6, ground := Ground.phase }, { on := 7, ground := Ground.phase }, { on := 8, ground := Ground.phase }, { on := 9, ground := Ground.phase }, { on := 10, ground := Ground.phase }], guard := none }) (v := ?ve11) rfl (by kernel_rfl) (by kernel_rfl) (by kernel_rfl) (fun _ _ _ h => h) (Or.inl ⟨by rfl, ?hye11⟩) (by assumption) ?reste11
      case hye11 => first | (intro w hSw; (try dsimp only at hSw); go_simp; done) | (intro w hSw; (try dsimp only at hSw); go_simp; with_reducible rfl)
      try simp only [Act.put, List.setIfInBounds_toArray, List.set_cons_zero, List.set_cons_succ]
      refine wpAnyH_ready (rs := [12]) (by kernel_rfl) (by simp) ?_
      refine AllReadyH.cons (o := { dst := none, op := Op.store 28 (Operand.tmp 48) (Operand.tmp 47), type := 0, pos := "build.go:74", after := #[{ on := 11, ground := Ground.data }, { on := 10, ground := Ground.data }, { on := 10, ground := Ground.chain }, { on := 0, ground := Ground.phase }, { on := 1, ground := Ground.phase }, { on := 2, ground := Ground.phase }, { on := 3, ground := Ground.phase }, { on := 4, ground := Ground.phase }, { on := 5, ground := Ground.phase }, { on := 6, ground := Ground.phase }, { on := 7, ground := Ground.phase }, { on := 8, ground := Ground.phase }, { on := 9, ground := Ground.phase }, { on := 10, ground := Ground.phase }], guard := none }) rfl (fun K hK => ?_) AllReadyH.nil
      obtain ⟨y1, d0, d1, d2, d3⟩ := LayS.put (show LayS w7 w5.heap.size (.slice sa sn scap) w3.heap.size g7 z c7 W7 0 (refV (z : Int) t) _ from hHeld) HZ.out hz0 hgb
      go_simp
      refine hK.out _ _ ?_ (fun hHeld => ?_)
      · exact ⟨d2.c1, .inr d2, d3⟩
      clear hK K
      try simp only [Act.put, List.setIfInBounds_toArray, List.set_cons_zero, List.set_cons_succ]
      refine wpAnyH_done (by kernel_rfl) ?_ _
      have d4 : (w7.setCell ⟨g7, 0, none⟩ (U (refV (z : Int) t))).drew.cell? ⟨w5.heap.size, 1, none⟩ = some (.slice (some ⟨g7, 0, none⟩) z c7) := d2.c1
      have hfin : Hid (Row (w7.setCell ⟨g7, 0, none⟩ (U (refV (z : Int) t))).drew 1 (.slice (some ⟨g7, 0, none⟩) z c7) z ((W7.set 0 (refV (z : Int) t)).map U) ∧ Below w.heap.size w (w7.setCell ⟨g7, 0, none⟩ (U (refV (z : Int) t))).drew) := hid (And.intro (by have h := Row.of_owns d2.own; rw [List.length_set, ← HZ.out] at h; exact h) (hB3.trans ((hB37.trans d3).mono hB3.size)))
      clear d0 d1 d2 d3 hHeld c71 hBB7
      generalize (w7.setCell ⟨g7, 0, none⟩ (U (refV (z : Int) t))).drew = w9 at *
      go_wp2_with fail
      go_returns
      exact ⟨_, by rw [HE.out]; rfl, by rw [HL.out, Hbw.out, List.length_set, ← HZ.out]; exact hfin.out.1, hfin.out.2⟩
    · have HE := hid (show buildE s d t v = 21 by rw [buildE, if_pos Hx.out.symm, if_neg (by rw [← Hz.out]; exact hz2)])
      have HL := hid (show buildL s d t v = [] by rw [buildL, if_neg (by rw [HE.out]; decide)])
      have hzd : (200 : Int) < (z : Int) := by omega
      clear hz2 Hbf
      go_enter Tryd.func6, Tryd.ntmps6
      go_wp2_with fail
      ((refine hck.out.mono ?_); rintro r2 w2 ⟨rfl, hb2⟩)
      have hB2 := hb1.trans (hb2.mono hb1.size)
      replace hsz := hsz.out w2 hB2
      have ⟨_, u0, u1, u2, u3, _⟩ := HV.out w2 hb2
      clear hck v0 v1 v2 v3 hw1
      go_wp2_with fail
      ((refine hsz.mono ?_); rintro r3 w3 ⟨rfl, hb3⟩)
      have hB3 := via hB2 hb3
      clear hsz u0 u1 u2 u3
      go_wp2_with fail
      ((refine (Hnew.out _ _).mono ?_); rintro r4 w4 ⟨rfl, rfl⟩)
      go_wp2_with fail
      go_returns
      exact ⟨_, by rw [HE.out]; rfl, by rw [HL.out]; exact nil_words _, hB3⟩
  · have HE := hid (show buildE s d t v = x by rw [buildE, if_neg (by rw [← Hx.out]; exact hx0), ← Hx.out])
    have HL := hid (show buildL s d t v = [] by rw [buildL, if_neg (by rw [HE.out]; exact hx0)])
    have hEx := errV_ne hx0
    rw [hEx] at hck
    have HEx := hid hEx
    clear hEx hx0 Hbf hsz
    go_enter Tryd.func6, Tryd.ntmps6
    go_wp2_with fail
    ((refine hck.out.mono ?_); rintro r2 w2 ⟨rfl, hb2⟩)
    have hB2 := via hb1 hb2
    clear hck v0 v1 v2 v3 hw1
    go_wp2_with fail
    go_returns
    exact ⟨_, by rw [HE.out, HEx.out]; rfl, by rw [HL.out]; exact nil_words _, hB2⟩
end SBBuildG

end Go.Proofs.YtblbhlgihlgncaaDoor


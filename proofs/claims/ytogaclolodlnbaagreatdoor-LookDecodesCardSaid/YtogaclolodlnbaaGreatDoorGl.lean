/- build's builder: words are laid behind all, and referred to; whatever they are. -/
import Derived.Test.YtogaclolodlnbaaGreatDoorGj
import Derived.Test.YtogaclolodlnbaaGreatDoorGd
import Derived.Test.YtogaclolodlnbaaGreatDoorGk
import Derived.Laws.EntriesVeiled
import Derived.Test.YtogaclolodlnbaaGreatDoorGh
import Derived.Outline
import Derived.Test.YtogaclolodlnbaaGreatDoorGg
set_option linter.unusedVariables false
set_option linter.unusedSimpArgs false
namespace Go.Proofs.YtogaclolodlnbaaGreatDoor
section SBLayG
open Go.RowKit

/-- A builder, and its words. -/
structure BB (w : World) (B : Nat) (sv : Value) (base : Nat) (wv : Value) (ws : List (BitVec 64)) : Prop where
  lt : B < w.heap.size
  c0 : w.cell? ⟨B, 0, none⟩ = some sv
  c1 : w.cell? ⟨B, 1, none⟩ = some wv
  fz : ∀ j, w.frozen? ⟨B, j, none⟩ = false
  own : w.ownsRow base 26 1 wv ws.length (ws.map U)
  ne : wv.ownBlock ≠ some B
theorem BB.below {w w' : World} {B base : Nat} {sv wv : Value} {ws : List (BitVec 64)} (h : BB w B sv base wv ws) (hb : Below w.heap.size w w') : BB w' B sv base wv ws :=
  ⟨Nat.lt_of_lt_of_le h.lt hb.size, (hb.cell h.lt).trans h.c0, (hb.cell h.lt).trans h.c1, fun j => (hb.frozen h.lt).trans (h.fz j), own_beneath h.own hb, h.ne⟩
theorem own_setN {w : World} {base g n cap sz : Nat} {e : TypeId} {xs : List Value} (h : w.ownsRow base e sz (.slice (some ⟨g, 0, none⟩) n cap) n xs) (o : Nat) (u : Value) :
    (w.setCell ⟨g, o, none⟩ u).ownsRow base e sz (.slice (some ⟨g, 0, none⟩) n cap) n (xs.set o u) := by
  rcases h.2 with ⟨h', _⟩ | ⟨g', cap', cur, h', hb, hg, hn, hm, hs, ht⟩
  · simp at h'
  · simp only [Value.slice.injEq, Option.some.injEq, Addr.mk.injEq, and_true, true_and] at h'
    obtain ⟨rfl, rfl⟩ := h'
    refine ⟨by rw [List.length_set]; exact h.1, .inr ⟨g, cap, cur.setIfInBounds o u, rfl, hb, ?_, hn, hm, by simp [hs], ?_⟩⟩
    · show (w.heap.modify g _)[g]? = _
      simp [Array.getElem?_modify, hg]
    · simp [Array.toList_setIfInBounds, List.take_set, ht]
theorem BB.word {w : World} {B base g cap : Nat} {sv : Value} {ws : List (BitVec 64)} {n : Nat} (h : BB w B sv base (.slice (some ⟨g, 0, none⟩) n cap) ws) (hn : n = ws.length) {o : Nat} (ho : o < n) :
    ∃ y : BitVec 64, w.cell? ⟨g, o, none⟩ = some (U y) ∧ w.frozen? ⟨g, o, none⟩ = false ∧ ∀ v : BitVec 64, BB (w.setCell ⟨g, o, none⟩ (U v)) B sv base (.slice (some ⟨g, 0, none⟩) n cap) (ws.set o v) := by
  subst hn
  have hgB : g ≠ B := fun e => h.ne (by simp [Value.ownBlock, e])
  have hc := h.own.cellAt o (by omega)
  rw [List.getElem?_map, List.getElem?_eq_getElem ho] at hc
  refine ⟨ws[o], hc, h.own.frozenAt o, fun v => ?_⟩
  have e : ∀ j, (w.setCell ⟨g, o, none⟩ (U v)).cell? ⟨B, j, none⟩ = w.cell? ⟨B, j, none⟩ := fun j => World.cell?_of_block (a := ⟨B, j, none⟩) (Below.heap_setCell _ _ _ _ (fun e => hgB e.symm))
  refine ⟨by simpa [World.setCell] using h.lt, by rw [e]; exact h.c0, by rw [e]; exact h.c1, fun j => by rw [World.frozen?_setCell]; exact h.fz j, ?_, h.ne⟩
  have := own_setN h.own o (U v)
  rw [← List.map_set] at this
  rw [List.length_set]
  exact this

/-- While a reference is laid: the words as they were, or with it. -/
def LayS (w0 : World) (B : Nat) (sv : Value) (base g k cap : Nat) (ws : List (BitVec 64)) (p : Nat) (v : BitVec 64) (W : World) : Prop :=
  W.cell? ⟨B, 1, none⟩ = some (.slice (some ⟨g, 0, none⟩) k cap) ∧ (BB W B sv base (.slice (some ⟨g, 0, none⟩) k cap) ws ∨ BB W B sv base (.slice (some ⟨g, 0, none⟩) k cap) (ws.set p v)) ∧ Below base w0 W
theorem LayS.start {w0 : World} {B : Nat} {sv : Value} {base g k cap : Nat} {ws : List (BitVec 64)} {p : Nat} {v : BitVec 64} {W : World} (h : BB W B sv base (.slice (some ⟨g, 0, none⟩) k cap) ws) (hb : Below base w0 W) : LayS w0 B sv base g k cap ws p v W := ⟨h.c1, .inl h, hb⟩
theorem LayS.put {w0 : World} {B : Nat} {sv : Value} {base g k cap : Nat} {ws : List (BitVec 64)} {p : Nat} {v : BitVec 64} {W : World} (h : LayS w0 B sv base g k cap ws p v W) (hk : k = ws.length) (hp : p < k) (hg : base ≤ g) :
    ∃ y : BitVec 64, W.cell? ⟨g, p, none⟩ = some (U y) ∧ W.frozen? ⟨g, p, none⟩ = false ∧ BB (W.setCell ⟨g, p, none⟩ (U v)) B sv base (.slice (some ⟨g, 0, none⟩) k cap) (ws.set p v) ∧ Below base w0 (W.setCell ⟨g, p, none⟩ (U v)) := by
  obtain ⟨_, h1, h2⟩ := h
  have hb2 := h2.setCell (p := ⟨g, p, none⟩) hg (U v)
  rcases h1 with h1 | h1
  · obtain ⟨y, g1, g2, g3⟩ := h1.word hk hp
    exact ⟨y, g1, g2, g3 v, hb2⟩
  · obtain ⟨y, g1, g2, g3⟩ := h1.word (by rw [List.length_set]; exact hk) hp
    have := g3 v
    rw [List.set_set] at this
    exact ⟨y, g1, g2, this, hb2⟩

theorem bb_after {w w7 : World} {B : Nat} {sv wv : Value} {base : Nat} {ws : List (BitVec 64)} (h : BB w B sv base wv ws) (hg : w.grownBy w7 wv.ownBlock) (hne : wv.ownBlock ≠ some B) : w7.cell? ⟨B, 1, none⟩ = some wv ∧ w7.frozen? ⟨B, 1, none⟩ = false := by
  have hb := hg.block B h.lt (fun e => hne e.symm)
  exact ⟨(World.cell?_of_block (a := ⟨B, 1, none⟩) hb).trans h.c1, (World.frozen?_of_block (a := ⟨B, 1, none⟩) hb).trans (h.fz 1)⟩
theorem bb_store {w w7 : World} {B : Nat} {sv wv v' : Value} {base n : Nat} {ws ws' : List (BitVec 64)} (h : BB w B sv base wv ws) (hg : w.grownBy w7 wv.ownBlock) (ho : w7.ownsRow base 26 1 v' n (ws'.map U)) (hn : n = ws'.length) (hat : v'.ownBlock = wv.ownBlock ∨ v'.ownBlock = some w.heap.size) :
    BB (w7.setCell ⟨B, 1, none⟩ v') B sv base v' ws' := by
  subst hn
  have hb := hg.block B h.lt (fun e => h.ne e.symm)
  have hne : v'.ownBlock ≠ some B := by
    rcases hat with e | e
    · rw [e]; exact h.ne
    · rw [e]; intro e2; have := Option.some.inj e2; have := h.lt; omega
  have hc1 := (World.cell?_of_block (a := ⟨B, 1, none⟩) hb).trans h.c1
  refine ⟨?_, ?_, World.cell?_setCell_same w7 _ _ hc1, fun j => ?_, ?_, hne⟩
  · have := hg.size; have := h.lt; simp [World.setCell]; omega
  · rw [show (w7.setCell ⟨B, 1, none⟩ v').cell? ⟨B, 0, none⟩ = w7.cell? ⟨B, 0, none⟩ by simp [go_sem]]
    exact (World.cell?_of_block (a := ⟨B, 0, none⟩) hb).trans h.c0
  · rw [World.frozen?_setCell]; exact (World.frozen?_of_block (a := ⟨B, j, none⟩) hb).trans (h.fz j)
  · exact own_keep ho fun q e => Below.heap_setCell _ _ _ _ (by rintro rfl; exact hne e)

/-- The builder has gone on from w0 to w: its words are ws now; what is elsewhere stays. -/
structure Bld (w0 w : World) (B : Nat) (sv : Value) (base : Nat) (wv0 wv : Value) (ws : List (BitVec 64)) : Prop where
  bb : BB w B sv base wv ws
  below : Below base w0 w
  own : wv.ownBlock = wv0.ownBlock ∨ ∃ g, wv.ownBlock = some g ∧ w0.heap.size ≤ g
  keep : ∀ b, b < w0.heap.size → b ≠ B → wv0.ownBlock ≠ some b → w.heap[b]? = w0.heap[b]?
theorem Bld.refl {w : World} {B : Nat} {sv : Value} {base : Nat} {wv : Value} {ws : List (BitVec 64)} (h : BB w B sv base wv ws) : Bld w w B sv base wv wv ws := ⟨h, Below.refl _ _, .inl rfl, fun _ _ _ _ => rfl⟩
theorem Bld.trans {w0 w1 w2 : World} {B : Nat} {sv : Value} {base : Nat} {wv0 wv1 wv2 : Value} {ws1 ws2 : List (BitVec 64)} (h : Bld w0 w1 B sv base wv0 wv1 ws1) (k : Bld w1 w2 B sv base wv1 wv2 ws2) : Bld w0 w2 B sv base wv0 wv2 ws2 := by
  refine ⟨k.bb, h.below.trans k.below, ?_, fun b h1 h2 h3 => ?_⟩
  · rcases k.own with e | ⟨g, e, hg⟩
    · rw [e]; exact h.own
    · exact .inr ⟨g, e, Nat.le_trans h.below.size hg⟩
  · refine (k.keep b (Nat.lt_of_lt_of_le h1 h.below.size) h2 fun e => ?_).trans (h.keep b h1 h2 h3)
    rcases h.own with e1 | ⟨g, e1, hg⟩
    · exact h3 (e1 ▸ e)
    · rw [e1] at e
      have := Option.some.inj e
      omega
/-- What is laid behind all changes nothing of it. -/
theorem Bld.later {w0 w w' : World} {B : Nat} {sv : Value} {base : Nat} {wv0 wv : Value} {ws : List (BitVec 64)} (h : Bld w0 w B sv base wv0 wv ws) (hB : base ≤ w.heap.size) (hb : Below w.heap.size w w') : Bld w0 w' B sv base wv0 wv ws :=
  ⟨h.bb.below hb, h.below.trans (hb.mono hB), h.own, fun b h1 h2 h3 => (hb.block b (Nat.lt_of_lt_of_le h1 h.below.size)).trans (h.keep b h1 h2 h3)⟩
theorem Bld.before {w0 w1 w : World} {B : Nat} {sv : Value} {base : Nat} {wv0 wv : Value} {ws : List (BitVec 64)} (hb : Below w0.heap.size w0 w1) (hB : base ≤ w0.heap.size) (h : Bld w1 w B sv base wv0 wv ws) : Bld w0 w B sv base wv0 wv ws :=
  ⟨h.bb, (hb.mono hB).trans h.below, h.own.imp id (fun ⟨g, e, hg⟩ => ⟨g, e, Nat.le_trans hb.size hg⟩), fun b h1 h2 h3 => (h.keep b (Nat.lt_of_lt_of_le h1 hb.size) h2 h3).trans (hb.block b h1)⟩
theorem BB.base {w : World} {B : Nat} {sv : Value} {base : Nat} {wv : Value} {ws : List (BitVec 64)} (h : BB w B sv base wv ws) (hbB : base ≤ B) : base ≤ w.heap.size := Nat.le_trans hbB (Nat.le_of_lt h.lt)
/-- Where the words lie. -/
theorem BB.at_ {w : World} {B : Nat} {sv : Value} {base : Nat} {wv : Value} {ws : List (BitVec 64)} (h : BB w B sv base wv ws) (h0 : 0 < ws.length) : ∃ g cap, wv = .slice (some ⟨g, 0, none⟩) ws.length cap ∧ base ≤ g ∧ g < w.heap.size ∧ g ≠ B ∧ wv.ownBlock = some g := by
  rcases h.own.2 with ⟨_, e0⟩ | ⟨g, c, _, rfl, hgb, hg, _⟩
  · omega
  · exact ⟨g, c, rfl, hgb, (Array.getElem?_eq_some_iff.1 hg).1, fun e => h.ne (by simp [Value.ownBlock, e]), rfl⟩

def LayP (p n : Nat) (ys : List (BitVec 64)) (B : Nat) (sv : Value) (base : Nat) (wv : Value) (ws : List (BitVec 64)) (w0 : World) (e : Ending) (w' : World) : Prop :=
  e = .returned (.int .i64 (ws.length : Nat)) ∧ ∃ wv', Bld w0 w' B sv base wv wv' (layW p n ys ws)

end SBLayG

section SBFieldG
open Go.RowKit

/-- While a word is laid. -/
def PutS (w0 : World) (B : Nat) (sv : Value) (base g k cap : Nat) (ws : List (BitVec 64)) (p : Nat) (v : BitVec 64) (D : Nat) (W : World) : Prop :=
  W.cell? ⟨B, 1, none⟩ = some (.slice (some ⟨g, 0, none⟩) k cap) ∧ W.cell? ⟨D, 0, none⟩ = some (U v) ∧ (BB W B sv base (.slice (some ⟨g, 0, none⟩) k cap) ws ∨ BB W B sv base (.slice (some ⟨g, 0, none⟩) k cap) (ws.set p v)) ∧ Below base w0 W

theorem PutS.start {w0 : World} {B : Nat} {sv : Value} {base g k cap : Nat} {ws : List (BitVec 64)} {p : Nat} {v : BitVec 64} {D : Nat} {W : World} (h : BB W B sv base (.slice (some ⟨g, 0, none⟩) k cap) ws) (hD : W.cell? ⟨D, 0, none⟩ = some (U v)) (hb : Below base w0 W) : PutS w0 B sv base g k cap ws p v D W := ⟨h.c1, hD, .inl h, hb⟩
theorem PutS.put {w0 : World} {B : Nat} {sv : Value} {base g k cap : Nat} {ws : List (BitVec 64)} {p : Nat} {v : BitVec 64} {D : Nat} {W : World} (h : PutS w0 B sv base g k cap ws p v D W) (hk : k = ws.length) (hp : p < k) (hg : base ≤ g) :
    ∃ y : BitVec 64, W.cell? ⟨g, p, none⟩ = some (U y) ∧ W.frozen? ⟨g, p, none⟩ = false ∧ BB (W.setCell ⟨g, p, none⟩ (U v)) B sv base (.slice (some ⟨g, 0, none⟩) k cap) (ws.set p v) ∧ Below base w0 (W.setCell ⟨g, p, none⟩ (U v)) :=
  LayS.put (v := v) ⟨h.1, h.2.2⟩ hk hp hg

/-- What a field, and what a struct's fields, come to. -/
def FieldP (w : World) (B : Nat) (sv : Value) (base : Nat) (wv : Value) (ws : List (BitVec 64)) (e : Ending) (w' : World) : Prop := e = .returned (.tuple #[]) ∧ ∃ wv', Bld w w' B sv base wv wv' ws
theorem BB.own_lt {w : World} {B : Nat} {sv : Value} {base : Nat} {wv : Value} {ws : List (BitVec 64)} (h : BB w B sv base wv ws) {g : Nat} (hg : wv.ownBlock = some g) : g < w.heap.size ∧ base ≤ g := ⟨(own_blk h.own hg).1.lt, (own_blk h.own hg).2⟩

/-- make([]T, n), at the operation, in a region. -/
theorem wp_make_full {P : Program} (w : World) {o : Oper} {a : Act} {K : Act → World → Prop} {Q : Exit → Act → World → Prop} (l c : Operand) (t : TypeId) (hop : o.op = Op.makeSlice t l c)
    (base : Nat) (e : TypeId) (i : TypeInfo) (z : Value) (size : Nat) (h1 : P.underlying t = some (.slice e)) (h2 : P.info? e = some i) (h3 : i.zero = some z) (h4 : i.size = size)
    (kl kc : IntKind) (L C : Int) (n : Nat) (hl : a.eval l = .int kl L) (hc : a.eval c = .int kc C) (hL : L = (n : Int)) (hC : C = (n : Int)) (b2 : i.bytes * n ≤ 281474976710656) (b3 : n ≤ maxLen) (b4 : base ≤ w.heap.size)
    (hK : ∀ w', w'.ownsRow base e size (.slice (some ⟨w.heap.size, 0, none⟩) n n) n (madeCells z.cells (n * size)).toList → w.grownBy w' none → K (a.put o.dst (.slice (some ⟨w.heap.size, 0, none⟩) n n)) w') : o.wp P a w K Q := by
  obtain ⟨w', hrun, r1, r2⟩ := run_make_full (P := P) w base t e i z size h1 h2 h3 h4 kl kc n b2 b3 b4
  subst hL
  subst hC
  unfold Oper.wp
  simp [execOp, hop, hl, hc, hrun, Result.andThen]
  exact hK _ r1 r2

end SBFieldG

section SBFieldsG
open Go.RowKit

/-- What the drawn region reads. -/
def FldS (B D : Nat) (sv x0 x1 x2 x3 : Value) (W : World) : Prop :=
  W.cell? ⟨B, 0, none⟩ = some sv ∧ W.cell? ⟨D, 0, none⟩ = some x0 ∧ W.cell? ⟨D, 1, none⟩ = some x1 ∧ W.cell? ⟨D, 2, none⟩ = some x2 ∧ W.cell? ⟨D, 3, none⟩ = some x3
theorem FldS.of {B D : Nat} {sv x0 x1 x2 x3 : Value} {W : World} (h : W.cell? ⟨B, 0, none⟩ = some sv) (hD : TB W D x0 x1 x2 x3) : FldS B D sv x0 x1 x2 x3 W := ⟨h, hD.c0, hD.c1, hD.c2, hD.c3⟩
theorem tb_new (w : World) (x0 x1 x2 x3 : Value) (T : TypeId) : TB (w.alloc (.cells #[x0, x1, x2, x3] T)) w.heap.size x0 x1 x2 x3 := by
  obtain ⟨w2, h, _, _, h4⟩ := TB.make w x0 x1 x2 x3 T
  rw [h]; exact h4

theorem right_field {s : Schema} (hr : rightB s = true) {t : Int} {i : Nat} (hi : i < (typeL s t).length) : 1 ≤ (fieldP s t i).1 ∧ (fieldP s t i).1 ≤ 5 ∧ 0 ≤ (fieldP s t i).2 ∧ (fieldP s t i).2 < s.length ∧ 0 < (typeL s (fieldP s t i).2).length := by
  have ht : 0 ≤ t ∧ t < s.length := by
    by_cases h : 0 ≤ t ∧ t < s.length
    · exact h
    · rw [typeL_out h] at hi; simp at hi
  obtain ⟨tn, rfl⟩ : ∃ n : Nat, t = n := ⟨t.toNat, by omega⟩
  obtain ⟨l, hl⟩ := get_lt (l := s) (i := tn) (by omega)
  rw [typeL_at hl] at hi
  obtain ⟨p, hp⟩ := get_lt hi
  have e : fieldP s tn i = p := fieldP_at (by rw [typeL_at hl]; exact hp)
  obtain ⟨h1, h2, h3, h4, _⟩ := right_at hr hl hp
  rw [e]
  refine ⟨h1, h2, h3, h4, ?_⟩
  obtain ⟨un, hu⟩ : ∃ n : Nat, p.2 = n := ⟨p.2.toNat, by omega⟩
  obtain ⟨l2, hl2⟩ := get_lt (l := s) (i := un) (by omega)
  rw [hu, typeL_at hl2]
  rw [rightB, Bool.and_eq_true, List.all_eq_true] at hr
  have := hr.2 l2 (List.mem_of_getElem? hl2)
  rw [lOk, Bool.and_eq_true, decide_eq_true_eq] at this
  omega

end SBFieldsG

section SBBuildG
open Go.RowKit

/-- What Build finds, and the words. -/
def buildE (s : Schema) (d : Nat) (t : Int) (v : St (d + 1)) : Int := if checkC s (d + 1) t v = 0 then (if 1 + wordsT (d + 1) v ≤ 200 then 0 else 21) else checkC s (d + 1) t v
def buildL (s : Schema) (d : Nat) (t : Int) (v : St (d + 1)) : List (BitVec 64) := if buildE s d t v = 0 then buildW s d t v else []
def BuildP (s : Schema) (d : Nat) (t : Int) (v : St (d + 1)) (w : World) (e : Ending) (w' : World) : Prop := ∃ wv, e = .returned (.tuple #[wv, ErrV (buildE s d t v)]) ∧ Row w' 1 wv (buildL s d t v).length ((buildL s d t v).map U) ∧ Below w.heap.size w w'

theorem madeU (n : Nat) : (madeCells (Value.int .u64 0).cells (n * 1)).toList = (List.replicate n 0#64).map U := by
  rw [show (Value.int IntKind.u64 0).cells = #[.int .u64 0] from rfl, toList_madeCells_one, Nat.mul_one, List.map_replicate]
  rfl
theorem bb_new {w : World} {base g n cap : Nat} {ws : List (BitVec 64)} (sv : Value) (T : TypeId) (hn : n = ws.length) (ho : w.ownsRow base 26 1 (.slice (some ⟨g, 0, none⟩) n cap) n (ws.map U)) :
    BB (w.alloc (.cells #[sv, .slice (some ⟨g, 0, none⟩) n cap] T)) w.heap.size sv base (.slice (some ⟨g, 0, none⟩) n cap) ws := by
  subst hn
  refine ⟨by simp, by simp, by simp, fun j => by simp [go_sem], own_beneath ho (below_alloc _ _), fun e => ?_⟩
  have h1 := (own_blk ho (g := g) rfl).1.lt
  have h2 : g = w.heap.size := Option.some.inj (show some g = some w.heap.size from e)
  omega
theorem nil_words (w : World) : Row w 1 (.slice none 0 0) ([] : List (BitVec 64)).length (([] : List (BitVec 64)).map U) := Row.nil w 1

end SBBuildG

end Go.Proofs.YtogaclolodlnbaaGreatDoor


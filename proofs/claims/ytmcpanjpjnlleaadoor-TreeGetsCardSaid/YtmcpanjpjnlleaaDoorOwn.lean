/- Rows that a call has made: what keeps them. -/
import Derived.Test.YtmcpanjpjnlleaaDoorSch
import Derived.Maps.AppendAt
set_option linter.unusedVariables false
namespace Go.Proofs.YtmcpanjpjnlleaaDoor
open Go.RowKit

/-- Block g holds cells of type t. -/
def BlkT (w : World) (g : Nat) (t : TypeId) : Prop := ∃ cs fr, w.heap[g]? = some (.cells cs t fr)

theorem BlkT.lt {w : World} {g : Nat} {t : TypeId} (h : BlkT w g t) : g < w.heap.size := by
  obtain ⟨cs, fr, h⟩ := h
  rcases Nat.lt_or_ge g w.heap.size with hlt | hge
  · exact hlt
  · rw [Array.getElem?_eq_none hge] at h; cases h
theorem BlkT.new (w : World) (cs : Array Value) (t : TypeId) : BlkT (w.alloc (.cells cs t)) w.heap.size t := ⟨cs, (0, 0), by show (w.heap.push _)[w.heap.size]? = _; simp⟩
theorem BlkT.keep {w w' : World} {g : Nat} {t : TypeId} (h : BlkT w g t) (hk : w'.heap[g]? = w.heap[g]?) : BlkT w' g t := by
  obtain ⟨cs, fr, h⟩ := h
  exact ⟨cs, fr, hk.trans h⟩
theorem BlkT.below {w w' : World} {B g : Nat} {t : TypeId} (h : BlkT w g t) (hb : Below B w w') (hB : g < B) : BlkT w' g t := h.keep (hb.block g hB)
theorem BlkT.setCell {w : World} {g : Nat} {t : TypeId} (h : BlkT w g t) (p : Addr) (u : Value) : BlkT (w.setCell p u) g t := by
  obtain ⟨cs, fr, h⟩ := h
  by_cases hp : p.block = g
  · subst hp
    unfold BlkT World.setCell
    simp only [Array.getElem?_modify, h, if_true]
    exact ⟨_, _, rfl⟩
  · refine ⟨cs, fr, ?_⟩
    rw [Below.heap_setCell w p u g (Ne.symm hp)]; exact h

theorem own_keep {w w' : World} {base : Nat} {e : TypeId} {sz n : Nat} {v : Value} {xs : List Value} (h : w.ownsRow base e sz v n xs) (hk : ∀ g, v.ownBlock = some g → w'.heap[g]? = w.heap[g]?) : w'.ownsRow base e sz v n xs := by
  refine ⟨h.1, ?_⟩
  rcases h.2 with h0 | ⟨g, cap, cur, rfl, hb, hg, rest⟩
  · exact .inl h0
  · exact .inr ⟨g, cap, cur, rfl, hb, (hk g rfl).trans hg, rest⟩

theorem own_blk {w : World} {base : Nat} {e : TypeId} {sz n : Nat} {v : Value} {xs : List Value} (h : w.ownsRow base e sz v n xs) {g : Nat} (hg : v.ownBlock = some g) : BlkT w g e ∧ base ≤ g := by
  rcases h.2 with ⟨rfl, _⟩ | ⟨g', cap, cur, rfl, hb, hh, _⟩
  · simp [Value.ownBlock] at hg
  · have : g' = g := by simpa [Value.ownBlock] using hg
    subst this
    exact ⟨⟨cur, _, hh⟩, hb⟩

theorem blk_ne {w : World} {g g' : Nat} {t t' : TypeId} (h : BlkT w g t) (h' : BlkT w g' t') (hne : t ≠ t') : g ≠ g' := by
  rintro rfl
  obtain ⟨cs, fr, h⟩ := h
  obtain ⟨cs', fr', h'⟩ := h'
  rw [h] at h'
  injection h' with h'
  injection h' with _ ht
  exact hne ht

/-- A row is kept where only a block of another type has turned. -/
theorem own_grown {w w' : World} {base : Nat} {e t : TypeId} {sz n : Nat} {v : Value} {xs : List Value} {row : Option Nat} (h : w.ownsRow base e sz v n xs) (hg : w.grownBy w' row) (hr : ∀ g, row = some g → BlkT w g t) (hne : t ≠ e) : w'.ownsRow base e sz v n xs :=
  own_keep h fun g hgv => hg.block g (own_blk h hgv).1.lt fun e' => blk_ne (hr g e'.symm) (own_blk h hgv).1 hne rfl
theorem own_row {w w' : World} {base base2 : Nat} {e t : TypeId} {sz n sz2 n2 : Nat} {v v2 : Value} {xs xs2 : List Value} (h : w.ownsRow base e sz v n xs) (h2 : w.ownsRow base2 t sz2 v2 n2 xs2) (hg : w.grownBy w' v2.ownBlock) (hne : t ≠ e) : w'.ownsRow base e sz v n xs :=
  own_grown h hg (fun g hgv => (own_blk h2 hgv).1) hne
theorem own_beneath {w w' : World} {base : Nat} {e : TypeId} {sz n : Nat} {v : Value} {xs : List Value} (h : w.ownsRow base e sz v n xs) (hb : Below w.heap.size w w') : w'.ownsRow base e sz v n xs :=
  own_keep h fun g hgv => hb.block g (own_blk h hgv).1.lt
theorem blk_grown {w w' : World} {g : Nat} {t t' : TypeId} {row : Option Nat} (h : BlkT w g t) (hg : w.grownBy w' row) (hr : ∀ g', row = some g' → BlkT w g' t') (hne : t' ≠ t) : BlkT w' g t :=
  h.keep (hg.block g h.lt fun e' => blk_ne (hr g e'.symm) h hne rfl)
theorem grown_more {a w w' : World} {row row2 : Option Nat} (h : a.grownBy w row) (k : w.grownBy w' row2) (hr : ∀ g, row2 = some g → a.heap.size ≤ g ∨ row = some g) : a.grownBy w' row := by
  refine ⟨k.os.trans h.os, k.tape.trans h.tape, k.output.trans h.output, Nat.le_trans h.size k.size, fun i hi hne => ?_⟩
  rw [k.block i (Nat.lt_of_lt_of_le hi h.size) fun e => ?_]
  · exact h.block i hi hne
  · rcases hr i e.symm with h1 | h1
    · omega
    · exact hne h1.symm
theorem grown_below {a w w' : World} {row : Option Nat} (h : a.grownBy w row) (k : Below w.heap.size w w') : a.grownBy w' row :=
  ⟨k.os.trans h.os, k.tape.trans h.tape, k.output.trans h.output, Nat.le_trans h.size k.size, fun i hi hne => (k.block i (Nat.lt_of_lt_of_le hi h.size)).trans (h.block i hi hne)⟩
theorem grown_set {a w : World} {row : Option Nat} (h : a.grownBy w row) {p : Addr} (hp : a.heap.size ≤ p.block ∨ row = some p.block) (u : Value) : a.grownBy (w.setCell p u) row :=
  ⟨h.os, h.tape, h.output, by simpa [World.setCell] using h.size, fun i hi hne => (Below.heap_setCell w p u i (by
    rintro rfl
    rcases hp with hp | hp
    · omega
    · exact hne hp.symm)).trans (h.block i hi hne)⟩
theorem own_base {w : World} {base base2 : Nat} {e : TypeId} {sz n : Nat} {v : Value} {xs : List Value} (h : w.ownsRow base e sz v n xs) (hb : base2 ≤ base) : w.ownsRow base2 e sz v n xs := by
  refine ⟨h.1, ?_⟩
  rcases h.2 with h0 | ⟨g, cap, cur, rfl, hb1, rest⟩
  · exact .inl h0
  · exact .inr ⟨g, cap, cur, rfl, Nat.le_trans hb hb1, rest⟩
theorem own_shape {w : World} {base : Nat} {e : TypeId} {sz n : Nat} {v : Value} {xs : List Value} (h : w.ownsRow base e sz v n xs) : ∃ a c, v = .slice a n c := by
  rcases h.2 with ⟨rfl, rfl⟩ | ⟨g, cap, cur, rfl, _⟩
  · exact ⟨_, _, rfl⟩
  · exact ⟨_, _, rfl⟩
theorem own_nil (w : World) (base : Nat) (e : TypeId) (sz : Nat) : w.ownsRow base e sz (.slice none 0 0) 0 [] := ⟨by simp, .inl ⟨rfl, rfl⟩⟩
/-- Below, over a row of the call's own that has grown. -/
theorem below_own {B : Nat} {w0 w w' : World} {base : Nat} {e : TypeId} {sz n : Nat} {v : Value} {xs : List Value} (hb : Below B w0 w) (h : w.ownsRow base e sz v n xs) (hB : B ≤ base) (hg : w.grownBy w' v.ownBlock) (hs : B ≤ w.heap.size) : Below B w0 w' :=
  hb.grown hg hs fun g hgv => Nat.le_trans hB (own_blk h hgv).2
end Go.Proofs.YtmcpanjpjnlleaaDoor


/- tree.get: what its parts share. -/
import Derived.Test.YtogaclolodlnbaaDoorTrGetV
import Derived.Deep.RegionHeld3
set_option linter.unusedVariables false
set_option linter.unusedSimpArgs false
namespace Go.Proofs.YtogaclolodlnbaaDoor
section STrGetA
open Go.RowKit

theorem cell_below {W W' : World} {p : Addr} {v : Value} (h : W.cell? p = some v) (hb : Below W.heap.size W W') : W'.cell? p = some v := (hb.cell (World.block_lt_of_cell? W p h)).trans h
theorem kept8 {W0 W W' : World} {p1 p2 p3 p4 p5 p6 p7 p8 : Addr} {v1 v2 v3 v4 v5 v6 v7 v8 : Value} (h : W.cell? p1 = some v1 ∧ W.cell? p2 = some v2 ∧ W.cell? p3 = some v3 ∧ W.cell? p4 = some v4 ∧ W.cell? p5 = some v5 ∧ W.cell? p6 = some v6 ∧ W.cell? p7 = some v7 ∧ W.cell? p8 = some v8 ∧ Below W0.heap.size W0 W) (hb : Below W.heap.size W W') : W'.cell? p1 = some v1 ∧ W'.cell? p2 = some v2 ∧ W'.cell? p3 = some v3 ∧ W'.cell? p4 = some v4 ∧ W'.cell? p5 = some v5 ∧ W'.cell? p6 = some v6 ∧ W'.cell? p7 = some v7 ∧ W'.cell? p8 = some v8 ∧ Below W0.heap.size W0 W' := by
  obtain ⟨h1, h2, h3, h4, h5, h6, h7, h8, h9⟩ := h
  exact ⟨cell_below h1 hb, cell_below h2 hb, cell_below h3 hb, cell_below h4 hb, cell_below h5 hb, cell_below h6 hb, cell_below h7 hb, cell_below h8 hb, h9.trans (hb.mono h9.size)⟩
theorem kept8_end {W0 W : World} {p1 p2 p3 p4 p5 p6 p7 p8 : Addr} {v1 v2 v3 v4 v5 v6 v7 v8 : Value} (h : W.cell? p1 = some v1 ∧ W.cell? p2 = some v2 ∧ W.cell? p3 = some v3 ∧ W.cell? p4 = some v4 ∧ W.cell? p5 = some v5 ∧ W.cell? p6 = some v6 ∧ W.cell? p7 = some v7 ∧ W.cell? p8 = some v8 ∧ Below W0.heap.size W0 W) : Below W0.heap.size W0 W := h.2.2.2.2.2.2.2.2

/-- A tree laid anew, cell by cell. -/
theorem tree_copy (w : World) (m : Nat) (c0 c1 c2 c3 : Value) : ∃ W, ((((((w.drewN m).alloc (.cells #[.int .u64 0, .string { data := #[] }, .slice none 0 0, .slice none 0 0] 49)).setCell ⟨w.heap.size, 0, none⟩ c0).setCell ⟨w.heap.size, 1, none⟩ c1).setCell ⟨w.heap.size, 2, none⟩ c2).setCell ⟨w.heap.size, 3, none⟩ c3) = W ∧
    Below w.heap.size w W ∧ w.heap.size < W.heap.size ∧ W.cell? ⟨w.heap.size, 0, none⟩ = some c0 ∧ W.cell? ⟨w.heap.size, 1, none⟩ = some c1 ∧ W.cell? ⟨w.heap.size, 2, none⟩ = some c2 ∧ W.cell? ⟨w.heap.size, 3, none⟩ = some c3 := by
  have z0 : ((w.drewN m).alloc (.cells #[.int .u64 0, .string { data := #[] }, .slice none 0 0, .slice none 0 0] 49)).cell? ⟨w.heap.size, 0, none⟩ = some (.int .u64 0) := World.cell?_alloc_at _ _ _ _ rfl
  have z1 : ((w.drewN m).alloc (.cells #[.int .u64 0, .string { data := #[] }, .slice none 0 0, .slice none 0 0] 49)).cell? ⟨w.heap.size, 1, none⟩ = some (.string { data := #[] }) := World.cell?_alloc_at _ _ _ _ rfl
  have z2 : ((w.drewN m).alloc (.cells #[.int .u64 0, .string { data := #[] }, .slice none 0 0, .slice none 0 0] 49)).cell? ⟨w.heap.size, 2, none⟩ = some (.slice none 0 0) := World.cell?_alloc_at _ _ _ _ rfl
  have z3 : ((w.drewN m).alloc (.cells #[.int .u64 0, .string { data := #[] }, .slice none 0 0, .slice none 0 0] 49)).cell? ⟨w.heap.size, 3, none⟩ = some (.slice none 0 0) := World.cell?_alloc_at _ _ _ _ rfl
  refine ⟨_, rfl, ?_, ?_, ?_, ?_, ?_, ?_⟩
  · exact (((((below_drewN _ w m).alloc (Nat.le_refl _) _).setCell (Nat.le_refl _) _).setCell (Nat.le_refl _) _).setCell (Nat.le_refl _) _).setCell (Nat.le_refl _) _
  · simp
  all_goals simp [go_sem, z0, z1, z2, z3]

def GetR (w : World) (x : BitVec 64 × Int) (e : Ending) (w' : World) : Prop := e = .returned (.tuple #[U x.1, .int .i64 x.2]) ∧ Below w.heap.size w w'

/-- The contract of tree.get for structs of St d. -/
def GetIH (s : Schema) (sa : Option Addr) (sn sc : Nat) (d : Nat) : Prop := ∀ (t : Int) (v : St d) (cs : List Value) (p : Int) (rest : List Int) (b off m c : Nat) (w : World), Sch w (.slice sa sn sc) s → RdS d w cs v →
    m = rest.length + 1 → Ints w (.slice (some ⟨b, off, none⟩) m c) (p :: rest) →
    Calls Tryd.prog 98 #[.slice sa sn sc, .int .i64 t, .agg cs.toArray, .slice (some ⟨b, off, none⟩) m c] w (GetR w (getT s d t v (p :: rest)))
end STrGetA

end Go.Proofs.YtogaclolodlnbaaDoor


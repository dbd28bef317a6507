/- Trees: a struct has fields, a field has structs. As data, and as they lie in memory. -/
import Derived.Test.YtmcpanjpjnlleaaDoorSch
set_option linter.unusedVariables false
namespace Go.Proofs.YtmcpanjpjnlleaaDoor
open Go.RowKit

structure Node (K : Type) where
  num : BitVec 64
  bytes : ByteArray
  nums : List (BitVec 64)
  kids : List K

/-- A struct, less than d + 1 deep. -/
def St : Nat → Type
  | 0 => Empty
  | d + 1 => Node (Node (St d))

/-- Four cells read a node; R: how the cells of its kids read. -/
structure RdN {K : Type} (R : World → List Value → K → Prop) (w : World) (cs : List Value) (t : Node K) : Prop where
  ex : ∃ c2 c3 xs, cs = [U t.num, .string t.bytes, c2, c3] ∧ (t.bytes.size ≤ 1000 ∧ t.nums.length ≤ 1000 ∧ t.kids.length ≤ 1000) ∧ Row w 1 c2 t.nums.length (t.nums.map U) ∧ Row w 4 c3 t.kids.length xs ∧
    ∀ (i : Nat) (k : K), t.kids[i]? = some k → R w ((xs.drop (i * 4)).take 4) k

def RdS : (d : Nat) → World → List Value → St d → Prop
  | 0 => fun _ _ _ => False
  | d + 1 => RdN (RdN (RdS d))
/-- A field. -/
abbrev RdF (d : Nat) : World → List Value → Node (St d) → Prop := RdN (RdS d)

def Kept {K : Type} (R : World → List Value → K → Prop) : Prop := ∀ (w w' : World) (B : Nat) (cs : List Value) (k : K), R w cs k → Below B w w' → w.heap.size ≤ B → R w' cs k

theorem kept_N {K : Type} {R : World → List Value → K → Prop} (h : Kept R) : Kept (RdN R) := fun w w' B cs t ⟨c2, c3, xs, h1, h2, h3, h4, h5⟩ hb hB =>
  ⟨c2, c3, xs, h1, h2, h3.below hb hB, h4.below hb hB, fun i k hk => h w w' B _ k (h5 i k hk) hb hB⟩
theorem kept_S : ∀ d, Kept (RdS d)
  | 0 => fun _ _ _ _ _ h => h.elim
  | d + 1 => kept_N (kept_N (kept_S d))

theorem RdS.below {d : Nat} {w w' : World} {B : Nat} {cs : List Value} {t : St d} (h : RdS d w cs t) (hb : Below B w w') (hB : w.heap.size ≤ B) : RdS d w' cs t := kept_S d w w' B cs t h hb hB
theorem RdF.below {d : Nat} {w w' : World} {B : Nat} {cs : List Value} {t : Node (St d)} (h : RdF d w cs t) (hb : Below B w w') (hB : w.heap.size ≤ B) : RdF d w' cs t := kept_N (kept_S d) w w' B cs t h hb hB

/-- The slice value v is the row of kids. -/
structure Kids {K : Type} (R : World → List Value → K → Prop) (w : World) (v : Value) (ks : List K) : Prop where
  ex : ∃ xs, Row w 4 v ks.length xs ∧ ∀ (i : Nat) (k : K), ks[i]? = some k → R w ((xs.drop (i * 4)).take 4) k

theorem Kids.below {K : Type} {R : World → List Value → K → Prop} (hR : Kept R) {w w' : World} {B : Nat} {v : Value} {ks : List K} (h : Kids R w v ks) (hb : Below B w w') (hB : w.heap.size ≤ B) : Kids R w' v ks := by
  obtain ⟨xs, h1, h2⟩ := h.ex
  exact ⟨xs, h1.below hb hB, fun i k hk => hR w w' B _ k (h2 i k hk) hb hB⟩

theorem RdN.open {K : Type} {R : World → List Value → K → Prop} {w : World} {cs : List Value} {t : Node K} (h : RdN R w cs t) :
    ∃ a2 p2 a3 p3, cs = [U t.num, .string t.bytes, .slice a2 t.nums.length p2, .slice a3 t.kids.length p3] ∧ t.bytes.size ≤ 1000 ∧ Row w 1 (.slice a2 t.nums.length p2) t.nums.length (t.nums.map U) ∧ Kids R w (.slice a3 t.kids.length p3) t.kids ∧ t.nums.length ≤ 1000 ∧ t.kids.length ≤ 1000 := by
  obtain ⟨c2, c3, xs, h1, h2, h3, h4, h5⟩ := h.ex
  obtain ⟨a2, p2, rfl, _⟩ := h3.open
  obtain ⟨a3, p3, rfl, _⟩ := h4.open
  exact ⟨a2, p2, a3, p3, h1, h2.1, h3, ⟨xs, h4, h5⟩, h2.2.1, h2.2.2⟩
theorem RdN.mk' {K : Type} {R : World → List Value → K → Prop} {w : World} {t : Node K} {c2 c3 : Value} (h2 : t.bytes.size ≤ 1000 ∧ t.nums.length ≤ 1000 ∧ t.kids.length ≤ 1000) (h3 : Row w 1 c2 t.nums.length (t.nums.map U)) (h4 : Kids R w c3 t.kids) : RdN R w [U t.num, .string t.bytes, c2, c3] t := by
  obtain ⟨xs, g1, g2⟩ := h4.ex
  exact ⟨c2, c3, xs, rfl, h2, h3, g1, g2⟩

theorem Kids.shape {K : Type} {R : World → List Value → K → Prop} {w : World} {v : Value} {ks : List K} (h : Kids R w v ks) : ∃ a cap, v = .slice a ks.length cap ∧ ks.length ≤ cap ∧ cap ≤ maxLen ∧ ks.length ≤ maxLen := by
  obtain ⟨xs, h1, _⟩ := h.ex
  obtain ⟨a, cap, h2, h3, h4, _⟩ := h1.open
  exact ⟨a, cap, h2, h3, h4, h1.most⟩

theorem Kids.at_ {K : Type} {S : World → List Value → K → Prop} {w : World} {a : Option Addr} {n cap : Nat} {ks : List (Node K)} {i : Nat} {k : Node K} (h : Kids (RdN S) w (.slice a n cap) ks) (hi : ks[i]? = some k) :
    ∃ b off a2 p2 a3 p3, a = some ⟨b, off, none⟩ ∧ b < w.heap.size ∧ w.cell? ⟨b, off + i * 4, none⟩ = some (U k.num) ∧ w.cell? ⟨b, off + i * 4 + 1, none⟩ = some (.string k.bytes) ∧
      w.cell? ⟨b, off + i * 4 + 2, none⟩ = some (.slice a2 k.nums.length p2) ∧ w.cell? ⟨b, off + i * 4 + 3, none⟩ = some (.slice a3 k.kids.length p3) ∧
      k.bytes.size ≤ 1000 ∧ Row w 1 (.slice a2 k.nums.length p2) k.nums.length (k.nums.map U) ∧ Kids S w (.slice a3 k.kids.length p3) k.kids ∧ RdN S w [U k.num, .string k.bytes, .slice a2 k.nums.length p2, .slice a3 k.kids.length p3] k ∧ k.nums.length ≤ 1000 ∧ k.kids.length ≤ 1000 := by
  obtain ⟨xs, h1, h2⟩ := h.ex
  have hlt : i < ks.length := (List.getElem?_eq_some_iff.1 hi).1
  obtain ⟨b, off, cap', e, h5, h6, h3, hc⟩ := h1.cons (by omega)
  have hk := h2 i k hi
  obtain ⟨a2, p2, a3, p3, g1, g2, g3, g4, g5, g6⟩ := hk.open
  simp only [Value.slice.injEq] at e
  have hx : ∀ j, j < 4 → xs[i * 4 + j]? = [U k.num, .string k.bytes, .slice a2 k.nums.length p2, .slice a3 k.kids.length p3][j]? := fun j hj => by
    rw [← g1, List.getElem?_take, if_pos hj, List.getElem?_drop]
  refine ⟨b, off, a2, p2, a3, p3, e.1, h3, ?_, ?_, ?_, ?_, g2, g3, g4, g1 ▸ hk, g5, g6⟩
  · rw [hc (i * 4) (by omega)]; exact hx 0 (by omega)
  · rw [Nat.add_assoc, hc (i * 4 + 1) (by omega)]; exact hx 1 (by omega)
  · rw [Nat.add_assoc, hc (i * 4 + 2) (by omega)]; exact hx 2 (by omega)
  · rw [Nat.add_assoc, hc (i * 4 + 3) (by omega)]; exact hx 3 (by omega)

/-- A kid that is known by its cells alone. -/
theorem Kids.cells_ {K : Type} {R : World → List Value → K → Prop} {w : World} {a : Option Addr} {n cap : Nat} {ks : List K} {i : Nat} {k : K} (h : Kids R w (.slice a n cap) ks) (hi : ks[i]? = some k) :
    ∃ b off, a = some ⟨b, off, none⟩ ∧ b < w.heap.size ∧ ∃ c, c.length ≤ 4 ∧ R w c k ∧ ∀ j, j < 4 → w.cell? ⟨b, off + i * 4 + j, none⟩ = c[j]? := by
  obtain ⟨xs, h1, h2⟩ := h.ex
  have hlt : i < ks.length := (List.getElem?_eq_some_iff.1 hi).1
  obtain ⟨b, off, cap', e, h5, h6, h3, hc⟩ := h1.cons (by omega)
  simp only [Value.slice.injEq] at e
  refine ⟨b, off, e.1, h3, _, ?_, h2 i k hi, fun j hj => ?_⟩
  · rw [List.length_take]; omega
  · rw [Nat.add_assoc, hc (i * 4 + j) (by omega), List.getElem?_take, if_pos hj, List.getElem?_drop]

/-- A struct among the kids of a field, known by its four cells. -/
theorem Kids.atS {d : Nat} {w : World} {a : Option Addr} {n cap : Nat} {ks : List (St d)} {i : Nat} {k : St d} (h : Kids (RdS d) w (.slice a n cap) ks) (hi : ks[i]? = some k) :
    ∃ b off x y a2 m2 p2 a3 m3 p3, a = some ⟨b, off, none⟩ ∧ b < w.heap.size ∧ w.cell? ⟨b, off + i * 4, none⟩ = some (U x) ∧ w.cell? ⟨b, off + i * 4 + 1, none⟩ = some (.string y) ∧
      w.cell? ⟨b, off + i * 4 + 2, none⟩ = some (.slice a2 m2 p2) ∧ w.cell? ⟨b, off + i * 4 + 3, none⟩ = some (.slice a3 m3 p3) ∧ RdS d w [U x, .string y, .slice a2 m2 p2, .slice a3 m3 p3] k := by
  cases d with
  | zero => nomatch k
  | succ d =>
    obtain ⟨b, off, a2, p2, a3, p3, h1, h2, h3, h4, h5, h6, _, _, _, h7, _, _⟩ := Kids.at_ h hi
    exact ⟨b, off, _, _, a2, _, p2, a3, _, p3, h1, h2, h3, h4, h5, h6, h7⟩

theorem Kids.nil {K : Type} (R : World → List Value → K → Prop) (w : World) : Kids R w (.slice none 0 0) [] := ⟨[], Row.nil w 4, fun i k h => by simp at h⟩
end Go.Proofs.YtmcpanjpjnlleaaDoor


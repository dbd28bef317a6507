/- A struct that is spoilt in a place is read as a struct. -/
import Derived.Test.YtmcpanjpjnlleaaDoorMadeT0
import Derived.Test.YtmcpanjpjnlleaaDoorBLay
import Derived.Deep.MidRow
set_option linter.unusedVariables false
set_option linter.unusedSimpArgs false
namespace Go.Proofs.YtmcpanjpjnlleaaDoor
open Go.RowKit

def set4 (xs : List Value) (o : Nat) (y0 y1 y2 y3 : Value) : List Value := (((xs.set o y0).set (o + 1) y1).set (o + 2) y2).set (o + 3) y3
theorem set4_length (xs : List Value) (o : Nat) (y0 y1 y2 y3 : Value) : (set4 xs o y0 y1 y2 y3).length = xs.length := by simp [set4]
theorem set4_at (xs : List Value) (i : Nat) (y0 y1 y2 y3 : Value) (h : i * 4 + 3 < xs.length) : ((set4 xs (i * 4) y0 y1 y2 y3).drop (i * 4)).take 4 = [y0, y1, y2, y3] := by
  apply List.ext_getElem?
  intro j
  rw [List.getElem?_take]
  by_cases hj : j < 4
  · rw [if_pos hj, List.getElem?_drop, set4]
    match j, hj with
    | 0, _ => simp [List.getElem?_set]; omega
    | 1, _ => simp [List.getElem?_set]; omega
    | 2, _ => simp [List.getElem?_set]; omega
    | 3, _ => simp [List.getElem?_set]; omega
  · rw [if_neg hj, List.getElem?_eq_none (by simp; omega)]
theorem set4_ne (xs : List Value) (i j : Nat) (y0 y1 y2 y3 : Value) (h : j ≠ i) : ((set4 xs (i * 4) y0 y1 y2 y3).drop (j * 4)).take 4 = (xs.drop (j * 4)).take 4 := by
  apply List.ext_getElem?
  intro k
  rw [List.getElem?_take, List.getElem?_take]
  by_cases hk : k < 4
  · rw [if_pos hk, if_pos hk, List.getElem?_drop, List.getElem?_drop, set4]
    rw [List.getElem?_set, if_neg (by omega), List.getElem?_set, if_neg (by omega), List.getElem?_set, if_neg (by omega), List.getElem?_set, if_neg (by omega)]
  · rw [if_neg hk, if_neg hk]
def setW4 (w : World) (g o : Nat) (y0 y1 y2 y3 : Value) : World := (((w.setCell ⟨g, o, none⟩ y0).setCell ⟨g, o + 1, none⟩ y1).setCell ⟨g, o + 2, none⟩ y2).setCell ⟨g, o + 3, none⟩ y3
theorem setW4_far (w : World) (g o : Nat) (y0 y1 y2 y3 : Value) (b : Nat) (h : b ≠ g) : (setW4 w g o y0 y1 y2 y3).heap[b]? = w.heap[b]? := by
  unfold setW4
  rw [Below.heap_setCell _ _ _ _ h, Below.heap_setCell _ _ _ _ h, Below.heap_setCell _ _ _ _ h, Below.heap_setCell _ _ _ _ h]
theorem setW4_size (w : World) (g o : Nat) (y0 y1 y2 y3 : Value) : (setW4 w g o y0 y1 y2 y3).heap.size = w.heap.size := by simp [setW4, World.setCell]
theorem setW4_below {B : Nat} {w0 w : World} {g : Nat} (h : Below B w0 w) (hg : B ≤ g) (o : Nat) (y0 y1 y2 y3 : Value) : Below B w0 (setW4 w g o y0 y1 y2 y3) :=
  (((h.setCell (p := ⟨g, o, none⟩) hg y0).setCell (p := ⟨g, o + 1, none⟩) hg y1).setCell (p := ⟨g, o + 2, none⟩) hg y2).setCell (p := ⟨g, o + 3, none⟩) hg y3
theorem own_set4 {w : World} {base g n cap : Nat} {e : TypeId} {xs : List Value} (h : w.ownsRow base e 4 (.slice (some ⟨g, 0, none⟩) n cap) n xs) (o : Nat) (y0 y1 y2 y3 : Value) :
    (setW4 w g o y0 y1 y2 y3).ownsRow base e 4 (.slice (some ⟨g, 0, none⟩) n cap) n (set4 xs o y0 y1 y2 y3) :=
  own_setN (own_setN (own_setN (own_setN h o y0) (o + 1) y1) (o + 2) y2) (o + 3) y3

/-- A row of kids of the call's own, the kids themselves of before. -/
structure SpV {K : Type} (R : World → List Value → K → Prop) (w0 W : World) (base g m c : Nat) (xs : List Value) (ks : List K) : Prop where
  own : W.ownsRow base 34 4 (.slice (some ⟨g, 0, none⟩) m c) m xs
  kl : ks.length = m
  rd : ∀ (j : Nat) (k : K), ks[j]? = some k → ∀ W', Below w0.heap.size w0 W' → R W' ((xs.drop (j * 4)).take 4) k

theorem SpV.len {K : Type} {R : World → List Value → K → Prop} {w0 W : World} {base g m c : Nat} {xs : List Value} {ks : List K} (h : SpV R w0 W base g m c xs ks) : xs.length = m * 4 := h.own.1
theorem SpV.keep {K : Type} {R : World → List Value → K → Prop} {w0 W W' : World} {base g m c : Nat} {xs : List Value} {ks : List K} (h : SpV R w0 W base g m c xs ks) (hk : W'.heap[g]? = W.heap[g]?) : SpV R w0 W' base g m c xs ks :=
  ⟨own_keep h.own (fun q e => by obtain rfl : g = q := by simpa [Value.ownBlock] using e
                                 exact hk), h.kl, h.rd⟩
theorem SpV.lt {K : Type} {R : World → List Value → K → Prop} {w0 W : World} {base g m c : Nat} {xs : List Value} {ks : List K} (h : SpV R w0 W base g m c xs ks) : g < W.heap.size ∧ base ≤ g := ⟨(own_blk h.own (g := g) rfl).1.lt, (own_blk h.own (g := g) rfl).2⟩
/-- The cells of a kid. -/
theorem SpV.cells {K : Type} {R : World → List Value → K → Prop} {w0 W : World} {base g m c i : Nat} {xs : List Value} {ks : List K} (h : SpV R w0 W base g m c xs ks) {y0 y1 y2 y3 : Value} (hi : i < m) (hc : (xs.drop (i * 4)).take 4 = [y0, y1, y2, y3]) :
    W.cell? ⟨g, i * 4, none⟩ = some y0 ∧ W.cell? ⟨g, i * 4 + 1, none⟩ = some y1 ∧ W.cell? ⟨g, i * 4 + 2, none⟩ = some y2 ∧ W.cell? ⟨g, i * 4 + 3, none⟩ = some y3 ∧ ∀ j, W.frozen? ⟨g, j, none⟩ = false := by
  have e : ∀ j, j < 4 → W.cell? ⟨g, i * 4 + j, none⟩ = [y0, y1, y2, y3][j]? := fun j hj => by
    rw [h.own.cellAt (i * 4 + j) (by omega), ← hc, List.getElem?_take, if_pos hj, List.getElem?_drop]
  exact ⟨e 0 (by omega), e 1 (by omega), e 2 (by omega), e 3 (by omega), h.own.frozenAt⟩
/-- A kid is changed: the row reads as the kids, one of them anew. -/
theorem SpV.done {K : Type} {R : World → List Value → K → Prop} {w0 W W9 : World} {base g m c i : Nat} {xs : List Value} {ks : List K} (h : SpV R w0 W base g m c xs ks) (hi : i < m) {y0 y1 y2 y3 : Value} {k : K} (h9 : W9.heap[g]? = (setW4 W g (i * 4) y0 y1 y2 y3).heap[g]?)
    (hb : Below w0.heap.size w0 W9) (hk : R W9 [y0, y1, y2, y3] k) : Kids R W9 (.slice (some ⟨g, 0, none⟩) m c) (ks.set i k) := by
  have ho := own_keep (own_set4 h.own (i * 4) y0 y1 y2 y3) (w' := W9) (fun q e => by
    obtain rfl : g = q := by simpa [Value.ownBlock] using e
    exact h9)
  have hl := h.len
  refine ⟨set4 xs (i * 4) y0 y1 y2 y3, by rw [List.length_set, h.kl]; exact Row.of_owns ho, fun j q hq => ?_⟩
  by_cases hj : j = i
  · subst hj
    rw [List.getElem?_set, if_pos rfl, if_pos (by rw [h.kl]; exact hi)] at hq
    obtain rfl := Option.some.inj hq
    rw [set4_at _ _ _ _ _ _ (by omega)]
    exact hk
  · rw [List.getElem?_set, if_neg (fun e => hj e.symm)] at hq
    rw [set4_ne _ _ _ _ _ _ _ hj]
    exact h.rd j q hq W9 hb

theorem chunk_one {K : Type} {R : World → List Value → K → Prop} {w : World} {xs : List Value} {ks : List (Node K)} (hl : xs.length = ks.length * 4) (h : ∀ (i : Nat) (k : Node K), ks[i]? = some k → RdN R w ((xs.drop (i * 4)).take 4) k) : ∀ u ∈ xs, u.oneCell' = true := by
  intro u hu
  obtain ⟨p, hp, rfl⟩ := List.getElem_of_mem hu
  have hi : p / 4 < ks.length := by omega
  obtain ⟨a2, p2, a3, p3, e, _⟩ := (h (p / 4) ks[p / 4] (List.getElem?_eq_getElem hi)).open
  have e2 : xs[p]? = [U (ks[p / 4]).num, .string (ks[p / 4]).bytes, .slice a2 (ks[p / 4]).nums.length p2, .slice a3 (ks[p / 4]).kids.length p3][p % 4]? := by
    rw [← e, List.getElem?_take, if_pos (Nat.mod_lt _ (by omega)), List.getElem?_drop]
    congr 1; omega
  rw [List.getElem?_eq_getElem hp] at e2
  have hm : p % 4 < 4 := Nat.mod_lt _ (by omega)
  generalize p % 4 = m at *
  match m, hm with
  | 0, _ => obtain e3 := Option.some.inj e2; rw [e3]; rfl
  | 1, _ => obtain e3 := Option.some.inj e2; rw [e3]; rfl
  | 2, _ => obtain e3 := Option.some.inj e2; rw [e3]; rfl
  | 3, _ => obtain e3 := Option.some.inj e2; rw [e3]; rfl

theorem sp_block {w : World} {g : Nat} (h : (Value.slice (some ⟨w.heap.size, 0, none⟩) 0 0).ownBlock = some g ∨ g = w.heap.size + 1) : w.heap.size ≤ g := by
  rcases h with h | h
  · have : w.heap.size = g := by simpa [Value.ownBlock] using h
    omega
  · omega
theorem sp_below {w w' : World} {T : TypeId} (h : (w.alloc (.cells #[] T)).grownBy w' (Value.slice (some ⟨w.heap.size, 0, none⟩) 0 0).ownBlock) : Below w.heap.size w w' :=
  (below_alloc w (.cells #[] T)).grown h (by simp) (fun q hq => by
    have : q = w.heap.size := by simpa [Value.ownBlock] using hq.symm
    omega)
/-- The turn's box. -/
structure QB (w : World) (Q : Nat) (how at_ n : Int) (str : ByteArray) (down : Bool) : Prop where
  lt : Q < w.heap.size
  c0 : w.cell? ⟨Q, 0, none⟩ = some (.int .i64 how)
  c1 : w.cell? ⟨Q, 1, none⟩ = some (.int .i64 at_)
  c2 : w.cell? ⟨Q, 2, none⟩ = some (.int .i64 n)
  c3 : w.cell? ⟨Q, 3, none⟩ = some (.string str)
  c4 : w.cell? ⟨Q, 4, none⟩ = some (.bool down)
  fz : ∀ j, w.frozen? ⟨Q, j, none⟩ = false
theorem QB.of_block {w w' : World} {Q : Nat} {how at_ n : Int} {str : ByteArray} {down : Bool} (h : QB w Q how at_ n str down) (hb : w'.heap[Q]? = w.heap[Q]?) (hs : Q < w'.heap.size) : QB w' Q how at_ n str down := by
  have e : ∀ j, w'.cell? ⟨Q, j, none⟩ = w.cell? ⟨Q, j, none⟩ := fun j => World.cell?_of_block (a := ⟨Q, j, none⟩) hb
  have e2 : ∀ j, w'.frozen? ⟨Q, j, none⟩ = w.frozen? ⟨Q, j, none⟩ := fun j => World.frozen?_of_block (a := ⟨Q, j, none⟩) hb
  exact ⟨hs, by rw [e]; exact h.c0, by rw [e]; exact h.c1, by rw [e]; exact h.c2, by rw [e]; exact h.c3, by rw [e]; exact h.c4, fun j => by rw [e2]; exact h.fz j⟩
theorem QB.below {w w' : World} {Q : Nat} {how at_ n : Int} {str : ByteArray} {down : Bool} (h : QB w Q how at_ n str down) (hb : Below w.heap.size w w') : QB w' Q how at_ n str down := h.of_block (hb.block Q h.lt) (Nat.lt_of_lt_of_le h.lt hb.size)
theorem QB.far {w : World} {Q b o : Nat} {how at_ n : Int} {str : ByteArray} {down : Bool} (h : QB w Q how at_ n str down) (hb : b ≠ Q) (u : Value) : QB (w.setCell ⟨b, o, none⟩ u) Q how at_ n str down := h.of_block (Below.heap_setCell _ _ _ _ (fun e => hb e.symm)) (by simpa [World.setCell] using h.lt)
theorem QB.make (w : World) (how at_ n : Int) (str : ByteArray) (down : Bool) (T : TypeId) : ∃ w1, w.alloc (.cells #[.int .i64 how, .int .i64 at_, .int .i64 n, .string str, .bool down] T) = w1 ∧ Below w.heap.size w w1 ∧ QB w1 w.heap.size how at_ n str down :=
  ⟨_, rfl, below_alloc _ _, by simp, by simp, by simp, by simp, by simp, by simp, fun j => by simp [go_sem]⟩
theorem QB.down_ {w : World} {Q : Nat} {how at_ n : Int} {str : ByteArray} {down : Bool} (h : QB w Q how at_ n str down) (b : Bool) : QB (w.setCell ⟨Q, 4, none⟩ (.bool b)) Q how at_ n str b :=
  ⟨by simpa [World.setCell] using h.lt, by rw [TB.key _ 0 (by omega)]; exact h.c0, by rw [TB.key _ 1 (by omega)]; exact h.c1, by rw [TB.key _ 2 (by omega)]; exact h.c2, by rw [TB.key _ 3 (by omega)]; exact h.c3, World.cell?_setCell_same w _ _ h.c4, fun i => by rw [World.frozen?_setCell]; exact h.fz i⟩

def setR (w : World) (R : Nat) (u0 u1 u2 u3 : Value) : World := (((w.setCell ⟨R, 0, none⟩ u0).setCell ⟨R, 1, none⟩ u1).setCell ⟨R, 2, none⟩ u2).setCell ⟨R, 3, none⟩ u3
theorem setR_far (w : World) (R : Nat) (y0 y1 y2 y3 : Value) (b : Nat) (h : b ≠ R) : (setR w R y0 y1 y2 y3).heap[b]? = w.heap[b]? := by
  unfold setR
  rw [Below.heap_setCell _ _ _ _ h, Below.heap_setCell _ _ _ _ h, Below.heap_setCell _ _ _ _ h, Below.heap_setCell _ _ _ _ h]
/-- The struct that is told: its field i is k8, all others are as before. -/
theorem sp_fin {d : Nat} {w0 w w8 : World} {R base g m c i nl p2 : Nat} {a2 : Option Addr} {b0 : ByteArray} {n1 : BitVec 64} {nums : List (BitVec 64)} {xs : List Value} {ks : List (Node (St d))} {r0 r1 r2 r3 z0 z1 z2 z3 : Value} {k8 : Node (St d)}
    (hB : Below w.heap.size w w8) (hS : SpV (RdF d) w0 w8 base g m c xs ks) (hi : i < m) (hm : m ≤ 1000) (hbase : w.heap.size ≤ base) (hgR : g ≠ R) (hRw : w.heap.size ≤ R) (hR : TB w8 R r0 r1 r2 r3)
    (hn : Row w0 1 (.slice a2 nl p2) nl (nums.map U)) (hnl : nl = nums.length) (hb0 : b0.size ≤ 1000) (hnl2 : nl ≤ 1000)
    (rd : ∀ W, Below w0.heap.size w0 W → (∀ b, b ≠ g → b ≠ R → w.heap.size ≤ b → b < w8.heap.size → W.heap[b]? = w8.heap[b]?) → RdF d W [z0, z1, z2, z3] k8) :
    TB (setR (setW4 w8 g (i * 4) z0 z1 z2 z3) R (U n1) (.string b0) (.slice a2 nl p2) (.slice (some ⟨g, 0, none⟩) m c)) R (U n1) (.string b0) (.slice a2 nl p2) (.slice (some ⟨g, 0, none⟩) m c) ∧
    (∃ X' : St (d + 1), (Node.bytes X' = b0 ∧ Node.nums X' = nums) ∧ ∀ W, Below w0.heap.size w0 W → (∀ b, w.heap.size ≤ b → b < (setR (setW4 w8 g (i * 4) z0 z1 z2 z3) R (U n1) (.string b0) (.slice a2 nl p2) (.slice (some ⟨g, 0, none⟩) m c)).heap.size → W.heap[b]? = (setR (setW4 w8 g (i * 4) z0 z1 z2 z3) R (U n1) (.string b0) (.slice a2 nl p2) (.slice (some ⟨g, 0, none⟩) m c)).heap[b]?) →
      RdS (d + 1) W [U n1, .string b0, .slice a2 nl p2, .slice (some ⟨g, 0, none⟩) m c] X') ∧
    Below w.heap.size w (setR (setW4 w8 g (i * 4) z0 z1 z2 z3) R (U n1) (.string b0) (.slice a2 nl p2) (.slice (some ⟨g, 0, none⟩) m c)) := by
  have hgl := hS.lt
  have hR1 : TB (setW4 w8 g (i * 4) z0 z1 z2 z3) R r0 r1 r2 r3 := hR.of_block (setW4_far _ _ _ _ _ _ _ _ (fun e => hgR e.symm)) (by rw [setW4_size]; exact hR.lt)
  have hB1 := setW4_below hB (Nat.le_trans hbase hgl.2) (i * 4) z0 z1 z2 z3
  have hB9 : Below w.heap.size w (setR (setW4 w8 g (i * 4) z0 z1 z2 z3) R (U n1) (.string b0) (.slice a2 nl p2) (.slice (some ⟨g, 0, none⟩) m c)) :=
    (((hB1.setCell (p := ⟨R, 0, none⟩) hRw _).setCell (p := ⟨R, 1, none⟩) hRw _).setCell (p := ⟨R, 2, none⟩) hRw _).setCell (p := ⟨R, 3, none⟩) hRw _
  have hsz : (setR (setW4 w8 g (i * 4) z0 z1 z2 z3) R (U n1) (.string b0) (.slice a2 nl p2) (.slice (some ⟨g, 0, none⟩) m c)).heap.size = w8.heap.size := by
    rw [show (setR (setW4 w8 g (i * 4) z0 z1 z2 z3) R (U n1) (.string b0) (.slice a2 nl p2) (.slice (some ⟨g, 0, none⟩) m c)).heap.size = (setW4 w8 g (i * 4) z0 z1 z2 z3).heap.size by simp [setR, World.setCell], setW4_size]
  refine ⟨((((hR1.set0 _).set1 _).set2 _).set3 _), ⟨(⟨n1, b0, nums, ks.set i k8⟩ : Node (Node (St d))), ⟨rfl, rfl⟩, fun W hW hWk => ?_⟩, hB9⟩
  rw [hsz] at hWk
  have hk := hS.done hi (k := k8) (y0 := z0) (y1 := z1) (y2 := z2) (y3 := z3) (W9 := W) (by rw [hWk g (by omega) hgl.1, setR_far _ _ _ _ _ _ _ hgR]) hW
    (rd _ hW fun b h1 h2 h3 h4 => by rw [hWk b h3 h4, setR_far _ _ _ _ _ _ _ h2, setW4_far _ _ _ _ _ _ _ _ h1])
  have e : m = (ks.set i k8).length := by rw [List.length_set]; exact hS.kl.symm
  subst hnl
  exact ⟨_, _, (hk.ex).choose, rfl, ⟨hb0, hnl2, by rw [← e]; exact hm⟩, hn.below hW (Nat.le_refl _), hk.ex.choose_spec.1, hk.ex.choose_spec.2⟩

theorem sp_k7 {d : Nat} {W : World} {k0 : BitVec 64} {k1 : ByteArray} {kn kk kp2 kp3 : Nat} {ka2 ka3 : Option Addr} {k : Node (St d)} (e : k0 = k.num ∧ k1 = k.bytes ∧ kn = k.nums.length ∧ kk = k.kids.length) (h : RdF d W [U k.num, .string k.bytes, .slice ka2 k.nums.length kp2, .slice ka3 k.kids.length kp3] k) :
    RdF d W [U k0, .string k1, .slice ka2 kn kp2, .slice ka3 kk kp3] k := by
  obtain ⟨rfl, rfl, rfl, rfl⟩ := e
  exact h
theorem sp_open {d : Nat} {W : World} {kn kk kp2 kp3 : Nat} {ka2 ka3 : Option Addr} {k : Node (St d)} (h : RdF d W [U k.num, .string k.bytes, .slice ka2 k.nums.length kp2, .slice ka3 k.kids.length kp3] k) :
    k.bytes.size ≤ 1000 ∧ k.nums.length ≤ 1000 ∧ k.kids.length ≤ 1000 ∧ Row W 1 (.slice ka2 k.nums.length kp2) k.nums.length (k.nums.map U) ∧ Kids (RdS d) W (.slice ka3 k.kids.length kp3) k.kids := by
  obtain ⟨c2, c3, xs, h1, h2, h3, h4, h5⟩ := h.ex
  simp only [List.cons.injEq, and_true, true_and] at h1
  obtain ⟨rfl, rfl⟩ := h1
  exact ⟨h2.1, h2.2.1, h2.2.2, h3, ⟨xs, h4, h5⟩⟩
theorem sp_k0 {d : Nat} {W : World} {k0 : BitVec 64} {k1 : ByteArray} {kn kk kp2 kp3 : Nat} {ka2 ka3 : Option Addr} {k : Node (St d)} (e : k0 = k.num ∧ k1 = k.bytes ∧ kn = k.nums.length ∧ kk = k.kids.length) (h : RdF d W [U k.num, .string k.bytes, .slice ka2 k.nums.length kp2, .slice ka3 k.kids.length kp3] k) (x : BitVec 64) :
    RdF d W [U x, .string k1, .slice ka2 kn kp2, .slice ka3 kk kp3] ⟨x, k.bytes, k.nums, k.kids⟩ := by
  obtain ⟨rfl, rfl, rfl, rfl⟩ := e
  obtain ⟨h1, h2, h3, h4, h5⟩ := sp_open (kn := 0) (kk := 0) h
  exact RdN.mk' (t := ⟨x, k.bytes, k.nums, k.kids⟩) ⟨h1, h2, h3⟩ h4 h5
theorem sp_k1 {d : Nat} {W : World} {k0 : BitVec 64} {k1 : ByteArray} {kn kk kp2 kp3 : Nat} {ka2 ka3 : Option Addr} {k : Node (St d)} (e : k0 = k.num ∧ k1 = k.bytes ∧ kn = k.nums.length ∧ kk = k.kids.length) (h : RdF d W [U k.num, .string k.bytes, .slice ka2 k.nums.length kp2, .slice ka3 k.kids.length kp3] k) (x : ByteArray) (hx : x.size ≤ 1000) :
    RdF d W [U k0, .string x, .slice ka2 kn kp2, .slice ka3 kk kp3] ⟨k.num, x, k.nums, k.kids⟩ := by
  obtain ⟨rfl, rfl, rfl, rfl⟩ := e
  obtain ⟨h1, h2, h3, h4, h5⟩ := sp_open (kn := 0) (kk := 0) h
  exact RdN.mk' (t := ⟨k.num, x, k.nums, k.kids⟩) ⟨hx, h2, h3⟩ h4 h5
theorem sp_k2 {d : Nat} {W : World} {k0 : BitVec 64} {k1 : ByteArray} {kn kk kp2 kp3 : Nat} {ka2 ka3 : Option Addr} {k : Node (St d)} (e : k0 = k.num ∧ k1 = k.bytes ∧ kn = k.nums.length ∧ kk = k.kids.length) (h : RdF d W [U k.num, .string k.bytes, .slice ka2 k.nums.length kp2, .slice ka3 k.kids.length kp3] k) (v : Value) (l : List (BitVec 64)) (hl : l.length ≤ 1000) (hv : Row W 1 v l.length (l.map U)) :
    RdF d W [U k0, .string k1, v, .slice ka3 kk kp3] ⟨k.num, k.bytes, l, k.kids⟩ := by
  obtain ⟨rfl, rfl, rfl, rfl⟩ := e
  obtain ⟨h1, h2, h3, h4, h5⟩ := sp_open (kn := 0) (kk := 0) h
  exact RdN.mk' (t := ⟨k.num, k.bytes, l, k.kids⟩) ⟨h1, hl, h3⟩ hv h5
theorem sp_kk {d : Nat} {W : World} {k0 : BitVec 64} {k1 : ByteArray} {kn kk kp2 kp3 : Nat} {ka2 ka3 : Option Addr} {k : Node (St d)} (e : k0 = k.num ∧ k1 = k.bytes ∧ kn = k.nums.length ∧ kk = k.kids.length) (h : RdF d W [U k.num, .string k.bytes, .slice ka2 k.nums.length kp2, .slice ka3 k.kids.length kp3] k) (v : Value) (l : List (St d)) (hl : l.length ≤ 1000) (hv : Kids (RdS d) W v l) :
    RdF d W [U k0, .string k1, .slice ka2 kn kp2, v] ⟨k.num, k.bytes, k.nums, l⟩ := by
  obtain ⟨rfl, rfl, rfl, rfl⟩ := e
  obtain ⟨h1, h2, h3, h4, h5⟩ := sp_open (kn := 0) (kk := 0) h
  exact RdN.mk' (t := ⟨k.num, k.bytes, k.nums, l⟩) ⟨h1, h2, hl⟩ h4 hv
theorem sp_k3 {d : Nat} {W : World} {k0 : BitVec 64} {k1 : ByteArray} {kn kk kp2 kp3 : Nat} {ka2 ka3 : Option Addr} {k : Node (St d)} (e : k0 = k.num ∧ k1 = k.bytes ∧ kn = k.nums.length ∧ kk = k.kids.length) (h : RdF d W [U k.num, .string k.bytes, .slice ka2 k.nums.length kp2, .slice ka3 k.kids.length kp3] k) :
    RdF d W [U k0, .string k1, .slice ka2 kn kp2, .slice none 0 0] ⟨k.num, k.bytes, k.nums, []⟩ := sp_kk e h _ [] (by simp) (Kids.nil _ _)

theorem there4 {w : World} {b o : Nat} {y0 y1 y2 y3 : Value} (h0 : w.cell? ⟨b, o, none⟩ = some y0) (h1 : w.cell? ⟨b, o + 1, none⟩ = some y1) (h2 : w.cell? ⟨b, o + 2, none⟩ = some y2) (h3 : w.cell? ⟨b, o + 3, none⟩ = some y3) (hf : ∀ j, w.frozen? ⟨b, j, none⟩ = false) : w.there b o 4 := fun j hj => by
  refine ⟨?_, hf _⟩
  match j, hj with
  | 0, _ => rw [Nat.add_zero, h0]; rfl
  | 1, _ => rw [h1]; rfl
  | 2, _ => rw [h2]; rfl
  | 3, _ => rw [h3]; rfl
theorem TB.there {w : World} {B : Nat} {x0 x1 x2 x3 : Value} (h : TB w B x0 x1 x2 x3) : w.there B 0 4 := there4 h.c0 h.c1 h.c2 h.c3 h.fz
theorem wpList_put4 {ops : Array Oper} {rest : List Oper} {op : Oper} {a : Act} {w : World} {Q : Exit → Act → World → Prop} (hgd : op.guard = none) (x y : Operand) (ho : op.op = .store 34 x y)
    (b o : Nat) (z0 z1 z2 z3 : Value) (hx : a.eval x = .pointer (some ⟨b, o, none⟩)) (hy : a.eval y = .agg #[z0, z1, z2, z3])
    (ht : w.there b o 4) (g0 : z0.oneCell' = true) (g1 : z1.oneCell' = true) (g2 : z2.oneCell' = true) (g3 : z3.oneCell' = true)
    (h : ∀ ws, Hid (ws = setW4 w b o z0 z1 z2 z3) → wpList Tryd.prog ops Q rest (a.put op.dst undef) ws) : wpList Tryd.prog ops Q (op :: rest) a w :=
  wpList_store_mid hgd 34 x y ho b o #[z0, z1, z2, z3] hx hy ht (by kernel_rfl) (by simp [g0, g1, g2, g3]) (h _ (hid rfl))

theorem sp_there {w : World} {b o n K j : Nat} {u : Value} (h : w.there b o n) (hK : K ≠ b) : (w.setCell ⟨K, j, none⟩ u).there b o n := fun q hq => by
  have hb := Below.heap_setCell w ⟨K, j, none⟩ u b (fun e => hK e.symm)
  rw [World.cell?_of_block (a := ⟨b, o + q, none⟩) hb, World.frozen?_of_block (a := ⟨b, o + q, none⟩) hb]
  exact h q hq

theorem run_app0 {P : Program} (w : World) (t ty e : TypeId) (i : TypeInfo) (ht : P.underlying t = some (.slice e)) (hi : P.info? e = some i) (b : Addr) (ka : Option Addr) (kp : Nat) :
    (Builtin.append_ #[t, t] ty #[.slice (some b) 0 0, .slice ka 0 kp]).run P w = .ok (.slice (some b) 0 0) w := by
  cases ka <;> simp [Builtin.append_, run_underlying ht, sizeOf, typeInfo, hi, Builtin.lenOf, Builtin.firstCells, storeCells, loadCells, loadCellsFrom]
theorem wp_app0 {P : Program} {w : World} {o : Oper} {a : Act} {K : Act → World → Prop} {Q : Exit → Act → World → Prop} (s x : Operand) (t : TypeId)
    (ho : o.op = .call { callee := .builtin .append, args := #[s, x], argTypes := #[t, t] }) (e : TypeId) (i : TypeInfo) (ht : P.underlying t = some (.slice e)) (hi : P.info? e = some i)
    (b : Addr) (ka : Option Addr) (kp : Nat) (hs : a.eval s = .slice (some b) 0 0) (hx : a.eval x = .slice ka 0 kp) (h : K (a.put o.dst (.slice (some b) 0 0)) w) : o.wp P a w K Q := by
  have hr := run_app0 (P := P) w t o.type e i ht hi b ka kp
  unfold Oper.wp execOp
  simp only [ho, resolve, invoke, builtin, Sem.run_bind, Sem.run_pure, Result.andThen_ok, List.map_toArray, List.map_cons, List.map_nil, hs, hx, hr]
  exact h
theorem zeros_made (n : Nat) : (madeCells (Value.int .u64 0).cells (n * 1)).toList = (List.replicate n 0#64).map U := by
  rw [show (Value.int IntKind.u64 0).cells = #[.int .u64 0] from rfl, toList_madeCells_one, Nat.mul_one, List.map_replicate]; rfl
def zeroT {K : Type} : Node K := ⟨0#64, ⟨#[]⟩, [], []⟩
theorem rd_zeroT {K : Type} (R : World → List Value → K → Prop) (w : World) : RdN R w [.int .u64 0, .string ⟨#[]⟩, .slice none 0 0, .slice none 0 0] (zeroT : Node K) :=
  RdN.mk' (t := (zeroT : Node K)) ⟨by show (⟨#[]⟩ : ByteArray).size ≤ 1000; decide, by simp [zeroT], by simp [zeroT]⟩ (Row.nil w 1) (Kids.nil R w)
theorem chunk_append_lt (xs ys : List Value) (j : Nat) (h : j * 4 + 4 ≤ xs.length) : ((xs ++ ys).drop (j * 4)).take 4 = (xs.drop (j * 4)).take 4 := by
  rw [List.drop_append_of_le_length (by omega), List.take_append_of_le_length (by rw [List.length_drop]; omega)]
theorem chunk_append_ge (xs ys : List Value) (n j : Nat) (h : xs.length = n * 4) (hj : n ≤ j) : ((xs ++ ys).drop (j * 4)).take 4 = (ys.drop ((j - n) * 4)).take 4 := by
  rw [List.drop_append, List.drop_eq_nil_of_le (by omega), List.nil_append, h, show j * 4 - n * 4 = (j - n) * 4 by omega]
/-- One more kid, an empty one. -/
theorem SpV.push {K : Type} {R : World → List Value → Node K → Prop} {w0 W W' : World} {base g m c g' c' : Nat} {xs : List Value} {ks : List (Node K)} (h : SpV R w0 W base g m c xs ks) (hz : ∀ W, R W [.int .u64 0, .string ⟨#[]⟩, .slice none 0 0, .slice none 0 0] zeroT)
    (ho : W'.ownsRow base 34 4 (.slice (some ⟨g', 0, none⟩) (m + 1) c') (m + 1) (xs ++ [.int .u64 0, .string ⟨#[]⟩, .slice none 0 0, .slice none 0 0])) :
    SpV R w0 W' base g' (m + 1) c' (xs ++ [.int .u64 0, .string ⟨#[]⟩, .slice none 0 0, .slice none 0 0]) (ks ++ [zeroT]) := by
  have hl := h.len
  refine ⟨ho, by rw [List.length_append, h.kl]; rfl, fun j k hk W2 hW => ?_⟩
  by_cases hj : j < ks.length
  · rw [List.getElem?_append_left hj] at hk
    have := h.kl
    rw [chunk_append_lt _ _ _ (by omega)]
    exact h.rd j k hk W2 hW
  · have hj2 : j = ks.length := by
      have := (List.getElem?_eq_some_iff.1 hk).1
      rw [List.length_append] at this; simp at this; omega
    subst hj2
    rw [List.getElem?_append_right (Nat.le_refl _)] at hk
    simp at hk
    subst hk
    rw [chunk_append_ge _ _ m _ hl (by rw [h.kl]; omega), h.kl, Nat.sub_self]
    exact hz W2
/-- Kids doubled. -/
theorem kids_twice {K : Type} {R : World → List Value → K → Prop} {W : World} {base n c g : Nat} {e : TypeId} {ys : List Value} {ks : List K} (ho : W.ownsRow base e 4 (.slice (some ⟨g, 0, none⟩) (n + n) c) (n + n) (ys ++ ys)) (hl : ys.length = n * 4) (hk : ks.length = n)
    (h : ∀ (j : Nat) (k : K), ks[j]? = some k → R W ((ys.drop (j * 4)).take 4) k) : Kids R W (.slice (some ⟨g, 0, none⟩) (n + n) c) (ks ++ ks) := by
  refine ⟨ys ++ ys, by rw [List.length_append, hk]; exact Row.of_owns ho, fun j k hj => ?_⟩
  by_cases h1 : j < ks.length
  · rw [List.getElem?_append_left h1] at hj
    rw [chunk_append_lt _ _ _ (by omega)]
    exact h j k hj
  · rw [List.getElem?_append_right (by omega)] at hj
    rw [chunk_append_ge _ _ n _ hl (by omega), ← hk]
    exact h _ k hj

theorem there_block {w w' : World} {b o n : Nat} (h : w.there b o n) (hb : w'.heap[b]? = w.heap[b]?) : w'.there b o n := fun q hq => by
  rw [World.cell?_of_block (a := ⟨b, o + q, none⟩) hb, World.frozen?_of_block (a := ⟨b, o + q, none⟩) hb]
  exact h q hq
theorem SpV.there {K : Type} {R : World → List Value → K → Prop} {w0 W : World} {base g m c i : Nat} {xs : List Value} {ks : List K} (h : SpV R w0 W base g m c xs ks) (hi : i < m) : W.there g (i * 4) 4 := fun q hq => by
  have hl := h.len
  refine ⟨?_, h.own.frozenAt _⟩
  rw [h.own.cellAt (i * 4 + q) (by omega), List.getElem?_eq_getElem (by omega)]; rfl
theorem kids_one {d : Nat} {w : World} {xs : List Value} {ks : List (St d)} (hl : xs.length = ks.length * 4) (h : ∀ (i : Nat) (k : St d), ks[i]? = some k → RdS d w ((xs.drop (i * 4)).take 4) k) : ∀ u ∈ xs, u.oneCell' = true := by
  cases d with
  | zero =>
    intro u hu
    cases ks with
    | nil => simp at hl; subst hl; simp at hu
    | cons a l => exact nomatch a
  | succ d => exact chunk_one hl h
theorem sp_below2 {w w' : World} {T : TypeId} (h : (w.alloc (.cells #[] T)).drew.grownBy w' (Value.slice (some ⟨w.heap.size, 0, none⟩) 0 0).ownBlock) : Below w.heap.size w w' :=
  sp_below (T := T) ⟨h.os, h.tape, h.output, h.size, h.block⟩
theorem wp_put4 {op : Oper} {a : Act} {w : World} {K : Act → World → Prop} {Q : Exit → Act → World → Prop} (x y : Operand) (ho : op.op = .store 34 x y)
    (b o : Nat) (z0 z1 z2 z3 : Value) (hx : a.eval x = .pointer (some ⟨b, o, none⟩)) (hy : a.eval y = .agg #[z0, z1, z2, z3])
    (ht : w.there b o 4) (g0 : z0.oneCell' = true) (g1 : z1.oneCell' = true) (g2 : z2.oneCell' = true) (g3 : z3.oneCell' = true)
    (h : ∀ ws, Hid (ws = setW4 w b o z0 z1 z2 z3) → K (a.put op.dst undef) ws) : op.wp Tryd.prog a w K Q :=
  wp_store_mid 34 x y ho b o #[z0, z1, z2, z3] hx hy ht (by kernel_rfl) (by simp [g0, g1, g2, g3]) (h _ (hid rfl))
theorem rdS_one {d : Nat} {W : World} {y0 y1 y2 y3 : Value} {X : St d} (h : RdS d W [y0, y1, y2, y3] X) : y0.oneCell' = true ∧ y1.oneCell' = true ∧ y2.oneCell' = true ∧ y3.oneCell' = true := by
  cases d with
  | zero => exact h.elim
  | succ d =>
    obtain ⟨a2, p2, a3, p3, e, _⟩ := RdN.open h
    simp only [List.cons.injEq, and_true] at e
    obtain ⟨rfl, rfl, rfl, rfl⟩ := e
    exact ⟨rfl, rfl, rfl, rfl⟩
theorem sp_cell {W W' : World} {p : Addr} {v : Value} (h : W.cell? p = some v) (hb : Below W.heap.size W W') : W'.cell? p = some v := (hb.cell (World.block_lt_of_cell? W p h)).trans h
theorem sp_keep6 {W W' : World} {p1 p2 p3 p4 p5 p6 : Addr} {v1 v2 v3 v4 v5 v6 : Value} (h : W.cell? p1 = some v1 ∧ W.cell? p2 = some v2 ∧ W.cell? p3 = some v3 ∧ W.cell? p4 = some v4 ∧ W.cell? p5 = some v5 ∧ W.cell? p6 = some v6) (hb : Below W.heap.size W W') :
    W'.cell? p1 = some v1 ∧ W'.cell? p2 = some v2 ∧ W'.cell? p3 = some v3 ∧ W'.cell? p4 = some v4 ∧ W'.cell? p5 = some v5 ∧ W'.cell? p6 = some v6 :=
  ⟨sp_cell h.1 hb, sp_cell h.2.1 hb, sp_cell h.2.2.1 hb, sp_cell h.2.2.2.1 hb, sp_cell h.2.2.2.2.1 hb, sp_cell h.2.2.2.2.2 hb⟩
theorem sp_set6 {W W' : World} {K Q g o o1 o2 o3 o4 o5 o6 : Nat} {z0 z1 z2 z3 v1 v2 v3 v4 v5 v6 : Value} (h : W.cell? ⟨K, o1, none⟩ = some v1 ∧ W.cell? ⟨Q, o2, none⟩ = some v2 ∧ W.cell? ⟨Q, o3, none⟩ = some v3 ∧ W.cell? ⟨Q, o4, none⟩ = some v4 ∧ W.cell? ⟨Q, o5, none⟩ = some v5 ∧ W.cell? ⟨Q, o6, none⟩ = some v6)
    (hw : W' = setW4 W g o z0 z1 z2 z3) (hK : K ≠ g) (hQ : Q ≠ g) : W'.cell? ⟨K, o1, none⟩ = some v1 ∧ W'.cell? ⟨Q, o2, none⟩ = some v2 ∧ W'.cell? ⟨Q, o3, none⟩ = some v3 ∧ W'.cell? ⟨Q, o4, none⟩ = some v4 ∧ W'.cell? ⟨Q, o5, none⟩ = some v5 ∧ W'.cell? ⟨Q, o6, none⟩ = some v6 := by
  subst hw
  have e : ∀ b j, b ≠ g → (setW4 W g o z0 z1 z2 z3).cell? ⟨b, j, none⟩ = W.cell? ⟨b, j, none⟩ := fun b j hb => World.cell?_of_block (a := ⟨b, j, none⟩) (setW4_far _ _ _ _ _ _ _ _ hb)
  rw [e _ _ hK, e _ _ hQ, e _ _ hQ, e _ _ hQ, e _ _ hQ, e _ _ hQ]
  exact h
def turnV (how at_ n : Int) (str : ByteArray) (down : Bool) : Value := .agg #[.int .i64 how, .int .i64 at_, .int .i64 n, .string str, .bool down]

def SpP (d : Nat) (X : St (d + 1)) (w0 w : World) (r : Ending) (w' : World) : Prop := ∃ y0 y1 y2 y3 X', r = .returned (.agg #[y0, y1, y2, y3]) ∧ (Node.bytes X' = Node.bytes X ∧ Node.nums X' = Node.nums X) ∧
  (∀ W, Below w0.heap.size w0 W → (∀ b, w.heap.size ≤ b → b < w'.heap.size → W.heap[b]? = w'.heap[b]?) → RdS (d + 1) W [y0, y1, y2, y3] X') ∧ Below w.heap.size w w'
end Go.Proofs.YtmcpanjpjnlleaaDoor


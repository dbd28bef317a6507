/- Trees: a struct has fields, a field has structs. As data, and as they lie in memory. -/
import Derived.Test.YtblbhlgihlgncaaDoorGa
import Derived.Deep.AppendLies
import Derived.Test.YtblbhlgihlgncaaDoorProg
import Derived.Handy
import Derived.Deep.LoopGhost
set_option linter.unusedVariables false
set_option linter.unusedSimpArgs false
namespace Go.Proofs.YtblbhlgihlgncaaDoor
section STr
open Go.RowKit

structure Node (K : Type) where
  num : BitVec 64
  bytes : ByteArray
  nums : List (BitVec 64)
  kids : List K

/-- A struct, less than d + 1 deep. -/
def St : Nat → Type
  | 0 => Empty
  | d + 1 => Node (Node (St d))

/-- Four cells read a node; R: how the cells of its kids read. -/
structure RdN {K : Type} (R : World → List Value → K → Prop) (w : World) (cs : List Value) (t : Node K) : Prop where
  ex : ∃ c2 c3 xs, cs = [U t.num, .string t.bytes, c2, c3] ∧ (t.bytes.size ≤ 1000 ∧ t.nums.length ≤ 1000 ∧ t.kids.length ≤ 1000) ∧ Row w 1 c2 t.nums.length (t.nums.map U) ∧ Row w 4 c3 t.kids.length xs ∧
    ∀ (i : Nat) (k : K), t.kids[i]? = some k → R w ((xs.drop (i * 4)).take 4) k

def RdS : (d : Nat) → World → List Value → St d → Prop
  | 0 => fun _ _ _ => False
  | d + 1 => RdN (RdN (RdS d))
/-- A field. -/
abbrev RdF (d : Nat) : World → List Value → Node (St d) → Prop := RdN (RdS d)

def Kept {K : Type} (R : World → List Value → K → Prop) : Prop := ∀ (w w' : World) (B : Nat) (cs : List Value) (k : K), R w cs k → Below B w w' → w.heap.size ≤ B → R w' cs k

theorem kept_N {K : Type} {R : World → List Value → K → Prop} (h : Kept R) : Kept (RdN R) := fun w w' B cs t ⟨c2, c3, xs, h1, h2, h3, h4, h5⟩ hb hB =>
  ⟨c2, c3, xs, h1, h2, h3.below hb hB, h4.below hb hB, fun i k hk => h w w' B _ k (h5 i k hk) hb hB⟩
theorem kept_S : ∀ d, Kept (RdS d)
  | 0 => fun _ _ _ _ _ h => h.elim
  | d + 1 => kept_N (kept_N (kept_S d))

theorem RdS.below {d : Nat} {w w' : World} {B : Nat} {cs : List Value} {t : St d} (h : RdS d w cs t) (hb : Below B w w') (hB : w.heap.size ≤ B) : RdS d w' cs t := kept_S d w w' B cs t h hb hB
theorem RdF.below {d : Nat} {w w' : World} {B : Nat} {cs : List Value} {t : Node (St d)} (h : RdF d w cs t) (hb : Below B w w') (hB : w.heap.size ≤ B) : RdF d w' cs t := kept_N (kept_S d) w w' B cs t h hb hB

/-- The slice value v is the row of kids. -/
structure Kids {K : Type} (R : World → List Value → K → Prop) (w : World) (v : Value) (ks : List K) : Prop where
  ex : ∃ xs, Row w 4 v ks.length xs ∧ ∀ (i : Nat) (k : K), ks[i]? = some k → R w ((xs.drop (i * 4)).take 4) k

theorem Kids.below {K : Type} {R : World → List Value → K → Prop} (hR : Kept R) {w w' : World} {B : Nat} {v : Value} {ks : List K} (h : Kids R w v ks) (hb : Below B w w') (hB : w.heap.size ≤ B) : Kids R w' v ks := by
  obtain ⟨xs, h1, h2⟩ := h.ex
  exact ⟨xs, h1.below hb hB, fun i k hk => hR w w' B _ k (h2 i k hk) hb hB⟩

theorem RdN.open {K : Type} {R : World → List Value → K → Prop} {w : World} {cs : List Value} {t : Node K} (h : RdN R w cs t) :
    ∃ a2 p2 a3 p3, cs = [U t.num, .string t.bytes, .slice a2 t.nums.length p2, .slice a3 t.kids.length p3] ∧ t.bytes.size ≤ 1000 ∧ Row w 1 (.slice a2 t.nums.length p2) t.nums.length (t.nums.map U) ∧ Kids R w (.slice a3 t.kids.length p3) t.kids ∧ t.nums.length ≤ 1000 ∧ t.kids.length ≤ 1000 := by
  obtain ⟨c2, c3, xs, h1, h2, h3, h4, h5⟩ := h.ex
  obtain ⟨a2, p2, rfl, _⟩ := h3.open
  obtain ⟨a3, p3, rfl, _⟩ := h4.open
  exact ⟨a2, p2, a3, p3, h1, h2.1, h3, ⟨xs, h4, h5⟩, h2.2.1, h2.2.2⟩
theorem RdN.mk' {K : Type} {R : World → List Value → K → Prop} {w : World} {t : Node K} {c2 c3 : Value} (h2 : t.bytes.size ≤ 1000 ∧ t.nums.length ≤ 1000 ∧ t.kids.length ≤ 1000) (h3 : Row w 1 c2 t.nums.length (t.nums.map U)) (h4 : Kids R w c3 t.kids) : RdN R w [U t.num, .string t.bytes, c2, c3] t := by
  obtain ⟨xs, g1, g2⟩ := h4.ex
  exact ⟨c2, c3, xs, rfl, h2, h3, g1, g2⟩

theorem Kids.shape {K : Type} {R : World → List Value → K → Prop} {w : World} {v : Value} {ks : List K} (h : Kids R w v ks) : ∃ a cap, v = .slice a ks.length cap ∧ ks.length ≤ cap ∧ cap ≤ maxLen ∧ ks.length ≤ maxLen := by
  obtain ⟨xs, h1, _⟩ := h.ex
  obtain ⟨a, cap, h2, h3, h4, _⟩ := h1.open
  exact ⟨a, cap, h2, h3, h4, h1.most⟩

theorem Kids.at_ {K : Type} {S : World → List Value → K → Prop} {w : World} {a : Option Addr} {n cap : Nat} {ks : List (Node K)} {i : Nat} {k : Node K} (h : Kids (RdN S) w (.slice a n cap) ks) (hi : ks[i]? = some k) :
    ∃ b off a2 p2 a3 p3, a = some ⟨b, off, none⟩ ∧ b < w.heap.size ∧ w.cell? ⟨b, off + i * 4, none⟩ = some (U k.num) ∧ w.cell? ⟨b, off + i * 4 + 1, none⟩ = some (.string k.bytes) ∧
      w.cell? ⟨b, off + i * 4 + 2, none⟩ = some (.slice a2 k.nums.length p2) ∧ w.cell? ⟨b, off + i * 4 + 3, none⟩ = some (.slice a3 k.kids.length p3) ∧
      k.bytes.size ≤ 1000 ∧ Row w 1 (.slice a2 k.nums.length p2) k.nums.length (k.nums.map U) ∧ Kids S w (.slice a3 k.kids.length p3) k.kids ∧ RdN S w [U k.num, .string k.bytes, .slice a2 k.nums.length p2, .slice a3 k.kids.length p3] k ∧ k.nums.length ≤ 1000 ∧ k.kids.length ≤ 1000 := by
  obtain ⟨xs, h1, h2⟩ := h.ex
  have hlt : i < ks.length := (List.getElem?_eq_some_iff.1 hi).1
  obtain ⟨b, off, cap', e, h5, h6, h3, hc⟩ := h1.cons (by omega)
  have hk := h2 i k hi
  obtain ⟨a2, p2, a3, p3, g1, g2, g3, g4, g5, g6⟩ := hk.open
  simp only [Value.slice.injEq] at e
  have hx : ∀ j, j < 4 → xs[i * 4 + j]? = [U k.num, .string k.bytes, .slice a2 k.nums.length p2, .slice a3 k.kids.length p3][j]? := fun j hj => by
    rw [← g1, List.getElem?_take, if_pos hj, List.getElem?_drop]
  refine ⟨b, off, a2, p2, a3, p3, e.1, h3, ?_, ?_, ?_, ?_, g2, g3, g4, g1 ▸ hk, g5, g6⟩
  · rw [hc (i * 4) (by omega)]; exact hx 0 (by omega)
  · rw [Nat.add_assoc, hc (i * 4 + 1) (by omega)]; exact hx 1 (by omega)
  · rw [Nat.add_assoc, hc (i * 4 + 2) (by omega)]; exact hx 2 (by omega)
  · rw [Nat.add_assoc, hc (i * 4 + 3) (by omega)]; exact hx 3 (by omega)

/-- A kid that is known by its cells alone. -/
theorem Kids.cells_ {K : Type} {R : World → List Value → K → Prop} {w : World} {a : Option Addr} {n cap : Nat} {ks : List K} {i : Nat} {k : K} (h : Kids R w (.slice a n cap) ks) (hi : ks[i]? = some k) :
    ∃ b off, a = some ⟨b, off, none⟩ ∧ b < w.heap.size ∧ ∃ c, c.length ≤ 4 ∧ R w c k ∧ ∀ j, j < 4 → w.cell? ⟨b, off + i * 4 + j, none⟩ = c[j]? := by
  obtain ⟨xs, h1, h2⟩ := h.ex
  have hlt : i < ks.length := (List.getElem?_eq_some_iff.1 hi).1
  obtain ⟨b, off, cap', e, h5, h6, h3, hc⟩ := h1.cons (by omega)
  simp only [Value.slice.injEq] at e
  refine ⟨b, off, e.1, h3, _, ?_, h2 i k hi, fun j hj => ?_⟩
  · rw [List.length_take]; omega
  · rw [Nat.add_assoc, hc (i * 4 + j) (by omega), List.getElem?_take, if_pos hj, List.getElem?_drop]

/-- A struct among the kids of a field, known by its four cells. -/
theorem Kids.atS {d : Nat} {w : World} {a : Option Addr} {n cap : Nat} {ks : List (St d)} {i : Nat} {k : St d} (h : Kids (RdS d) w (.slice a n cap) ks) (hi : ks[i]? = some k) :
    ∃ b off x y a2 m2 p2 a3 m3 p3, a = some ⟨b, off, none⟩ ∧ b < w.heap.size ∧ w.cell? ⟨b, off + i * 4, none⟩ = some (U x) ∧ w.cell? ⟨b, off + i * 4 + 1, none⟩ = some (.string y) ∧
      w.cell? ⟨b, off + i * 4 + 2, none⟩ = some (.slice a2 m2 p2) ∧ w.cell? ⟨b, off + i * 4 + 3, none⟩ = some (.slice a3 m3 p3) ∧ RdS d w [U x, .string y, .slice a2 m2 p2, .slice a3 m3 p3] k := by
  cases d with
  | zero => nomatch k
  | succ d =>
    obtain ⟨b, off, a2, p2, a3, p3, h1, h2, h3, h4, h5, h6, _, _, _, h7, _, _⟩ := Kids.at_ h hi
    exact ⟨b, off, _, _, a2, _, p2, a3, _, p3, h1, h2, h3, h4, h5, h6, h7⟩

theorem Kids.nil {K : Type} (R : World → List Value → K → Prop) (w : World) : Kids R w (.slice none 0 0) [] := ⟨[], Row.nil w 4, fun i k h => by simp at h⟩
end STr

section STrV
open Go.RowKit

def hasV (kind : Int) (x : BitVec 64) (nb nn nk : Nat) : Bool :=
  if kind = 1 then decide (nb = 0 ∧ nn = 0 ∧ nk = 0)
  else if kind = 2 then x == 0#64 && decide (nn = 0 ∧ nk = 0 ∧ nb ≤ 40)
  else if kind = 3 then x == 0#64 && decide (nb = 0 ∧ nk = 0 ∧ nn ≤ 12)
  else if kind = 4 then x == 0#64 && decide (nb = 0 ∧ nn = 0 ∧ nk ≤ 1)
  else if kind = 5 then x == 0#64 && decide (nb = 0 ∧ nn = 0 ∧ nk ≤ 12)
  else false
def hasB {K : Type} (kind : Int) (v : Node K) : Bool := hasV kind v.num v.bytes.size v.nums.length v.kids.length

/-- The first code that is not 0. -/
def firstE {α : Type} (f : Nat → α → Int) : Nat → List α → Int
  | _, [] => 0
  | i, x :: l => if f i x = 0 then firstE f (i + 1) l else f i x

theorem firstE_append {α : Type} (f : Nat → α → Int) : ∀ (l m : List α) (i : Nat), firstE f i (l ++ m) = if firstE f i l = 0 then firstE f (i + l.length) m else firstE f i l
  | [], m, i => by simp [firstE]
  | x :: l, m, i => by
    simp only [List.cons_append, firstE, List.length_cons]
    by_cases h : f i x = 0
    · simp only [h, if_true]
      rw [firstE_append f l m (i + 1), show i + 1 + l.length = i + (l.length + 1) by omega]
    · simp only [h, if_false]
theorem firstE_succ {α : Type} (f : Nat → α → Int) (l : List α) (i : Nat) (x : α) (h : l[i]? = some x) (h0 : firstE f 0 (l.take i) = 0) : firstE f 0 (l.take (i + 1)) = f i x := by
  have hi : i < l.length := (List.getElem?_eq_some_iff.1 h).1
  rw [List.take_add_one, h, firstE_append, if_pos h0]
  simp only [Option.toList_some, firstE, List.length_take, Nat.zero_add, Nat.min_eq_left (Nat.le_of_lt hi)]
  split
  · next h1 => exact h1.symm
  · rfl
theorem firstE_hit {α : Type} (f : Nat → α → Int) (l : List α) (i : Nat) (x : α) (h : l[i]? = some x) (h0 : firstE f 0 (l.take i) = 0) (hx : f i x ≠ 0) : firstE f 0 l = f i x := by
  have hi : i < l.length := (List.getElem?_eq_some_iff.1 h).1
  have e : l = l.take i ++ x :: l.drop (i + 1) := by
    rw [← List.take_append_drop i l]
    congr 1
    · simp
    · rw [List.take_append_drop, List.drop_eq_getElem_cons hi]
      congr 1
      exact Option.some.inj ((List.getElem?_eq_getElem hi).symm.trans h)
  rw [e, firstE_append, if_pos h0]
  simp only [firstE, List.length_take, Nat.zero_add, Nat.min_eq_left (Nat.le_of_lt hi), if_neg hx]
theorem firstE_all {α : Type} (f : Nat → α → Int) (l : List α) (i : Nat) (h : l.length ≤ i) : firstE f 0 (l.take i) = firstE f 0 l := by rw [List.take_of_length_le h]

/-- What Check finds of a struct: 0, 24 or 16. -/
def codeT (s : Schema) : (d left : Nat) → Int → St d → Int
  | 0, _, _, v => nomatch v
  | d + 1, left, t, v =>
    if left = 0 then 16
    else if ¬ v.num = 0#64 ∨ ¬ v.bytes.size = 0 ∨ ¬ v.nums.length = 0 ∨ ¬ v.kids.length = (typeL s t).length then 24
    else firstE (fun i k => if hasB (fieldP s t i).1 k then firstE (fun _ x => codeT s d (left - 1) (fieldP s t i).2 x) 0 k.kids else 24) 0 v.kids

def checkC (s : Schema) (d : Nat) (t : Int) (v : St d) : Int := if rightB s ∧ 0 ≤ t ∧ t < s.length then codeT s d 5 t v else 1

def maxL {α : Type} (f : α → Nat) (l : List α) : Nat := l.foldl (fun m x => max m (f x)) 0
def sumL {α : Type} (f : α → Nat) (l : List α) : Nat := l.foldl (fun m x => m + f x) 0
theorem maxL_succ {α : Type} (f : α → Nat) (l : List α) (i : Nat) (x : α) (h : l[i]? = some x) : maxL f (l.take (i + 1)) = max (maxL f (l.take i)) (f x) := by
  rw [List.take_add_one, h]; simp [maxL]
theorem sumL_succ {α : Type} (f : α → Nat) (l : List α) (i : Nat) (x : α) (h : l[i]? = some x) : sumL f (l.take (i + 1)) = sumL f (l.take i) + f x := by
  rw [List.take_add_one, h]; simp [sumL]

def deepT : (d : Nat) → St d → Nat
  | 0, v => nomatch v
  | d + 1, v => 1 + maxL (fun k : Node (St d) => maxL (deepT d) k.kids) v.kids
def wordsT : (d : Nat) → St d → Nat
  | 0, v => nomatch v
  | d + 1, v => v.kids.length + sumL (fun k : Node (St d) => (k.bytes.size + 7) / 8 + k.nums.length + sumL (wordsT d) k.kids) v.kids
end STrV

section SKeep
open Go.RowKit

/-- R holds in every world that agrees with w outside the blocks G. -/
def KW (G : Nat → Prop) (w : World) (R : World → Prop) : Prop := ∀ W : World, (∀ i, i < w.heap.size → ¬ G i → W.heap[i]? = w.heap[i]?) → R W

theorem KW.now {G : Nat → Prop} {w : World} {R : World → Prop} (h : KW G w R) : R w := h w fun _ _ _ => rfl
theorem KW.step {G G' : Nat → Prop} {w w2 : World} {R : World → Prop} (h : KW G w R) (hs : w.heap.size ≤ w2.heap.size) (hk : ∀ i, i < w.heap.size → ¬ G i → ¬ G' i ∧ w2.heap[i]? = w.heap[i]?) : KW G' w2 R :=
  fun W hW => h W fun i hi hg => (hW i (Nat.lt_of_lt_of_le hi hs) (hk i hi hg).1).trans (hk i hi hg).2
theorem KW.below {G : Nat → Prop} {w w2 : World} {R : World → Prop} (h : KW G w R) (hb : Below w.heap.size w w2) : KW G w2 R := h.step hb.size fun i hi hg => ⟨hg, hb.block i hi⟩
theorem KW.grown {G G' : Nat → Prop} {w w2 : World} {row : Option Nat} {R : World → Prop} (h : KW G w R) (hb : w.grownBy w2 row) (hr : ∀ i, row = some i → G i) (hG : ∀ i, i < w.heap.size → G' i → G i) : KW G' w2 R :=
  h.step hb.size fun i hi hg => ⟨fun h' => hg (hG i hi h'), hb.block i hi fun e => hg (hr i e.symm)⟩
theorem KW.set {G : Nat → Prop} {w : World} {R : World → Prop} (h : KW G w R) (p : Addr) (u : Value) (hp : G p.block) : KW G (w.setCell p u) R :=
  h.step (by simp [World.setCell]) fun i hi hg => ⟨hg, Below.heap_setCell w p u i (fun e => hg (e ▸ hp))⟩
theorem KW.mono {G G' : Nat → Prop} {w : World} {R : World → Prop} (h : KW G w R) (hG : ∀ i, i < w.heap.size → G' i → G i) : KW G' w R := h.step (Nat.le_refl _) fun i hi hg => ⟨fun h' => hg (hG i hi h'), rfl⟩
theorem KW.of_below {w w2 : World} {R : World → Prop} (h : ∀ W, Below w2.heap.size w2 W → R W) : True := trivial

/-- A row of the call's own is read in all of them, but for its block. -/
theorem kw_own {G : Nat → Prop} {w : World} {base : Nat} {e : TypeId} {sz n : Nat} {v : Value} {xs : List Value} (h : w.ownsRow base e sz v n xs) (hg : ∀ g, v.ownBlock = some g → ¬ G g) : KW G w fun W => Row W sz v n xs := fun W hW =>
  Row.of_owns (own_keep h fun g e => hW g (own_blk h e).1.lt (hg g e))

/-- Kids by their cells, each read in all worlds that agree outside G. -/
structure KK {K : Type} (R : World → List Value → K → Prop) (G : Nat → Prop) (w : World) (xs : List Value) (ks : List K) : Prop where
  len : xs.length = ks.length * 4
  at_ : ∀ (i : Nat) (k : K), ks[i]? = some k → KW G w fun W => R W ((xs.drop (i * 4)).take 4) k
theorem KK.nil {K : Type} (R : World → List Value → K → Prop) (G : Nat → Prop) (w : World) : KK R G w [] [] := ⟨rfl, fun i k h => by simp at h⟩
theorem KK.step {K : Type} {R : World → List Value → K → Prop} {G G' : Nat → Prop} {w w2 : World} {xs : List Value} {ks : List K} (h : KK R G w xs ks) (hs : w.heap.size ≤ w2.heap.size) (hk : ∀ i, i < w.heap.size → ¬ G i → ¬ G' i ∧ w2.heap[i]? = w.heap[i]?) : KK R G' w2 xs ks :=
  ⟨h.len, fun i k e => (h.at_ i k e).step hs hk⟩
theorem KK.below {K : Type} {R : World → List Value → K → Prop} {G : Nat → Prop} {w w2 : World} {xs : List Value} {ks : List K} (h : KK R G w xs ks) (hb : Below w.heap.size w w2) : KK R G w2 xs ks := ⟨h.len, fun i k e => (h.at_ i k e).below hb⟩
theorem KK.grown {K : Type} {R : World → List Value → K → Prop} {G G' : Nat → Prop} {w w2 : World} {row : Option Nat} {xs : List Value} {ks : List K} (h : KK R G w xs ks) (hb : w.grownBy w2 row) (hr : ∀ i, row = some i → G i) (hG : ∀ i, i < w.heap.size → G' i → G i) : KK R G' w2 xs ks := ⟨h.len, fun i k e => (h.at_ i k e).grown hb hr hG⟩
theorem KK.set {K : Type} {R : World → List Value → K → Prop} {G : Nat → Prop} {w : World} {xs : List Value} {ks : List K} (h : KK R G w xs ks) (p : Addr) (u : Value) (hp : G p.block) : KK R G (w.setCell p u) xs ks := ⟨h.len, fun i k e => (h.at_ i k e).set p u hp⟩
theorem KK.mono {K : Type} {R : World → List Value → K → Prop} {G G' : Nat → Prop} {w : World} {xs : List Value} {ks : List K} (h : KK R G w xs ks) (hG : ∀ i, i < w.heap.size → G' i → G i) : KK R G' w xs ks := ⟨h.len, fun i k e => (h.at_ i k e).mono hG⟩
theorem KK.add {K : Type} {R : World → List Value → K → Prop} {G : Nat → Prop} {w : World} {xs : List Value} {ks : List K} (h : KK R G w xs ks) (c : List Value) (k : K) (hc : c.length = 4) (hk : KW G w fun W => R W c k) : KK R G w (xs ++ c) (ks ++ [k]) := by
  refine ⟨by rw [List.length_append, List.length_append, h.len, hc]; simp; omega, fun i x e => ?_⟩
  by_cases hi : i < ks.length
  · rw [List.getElem?_append_left hi] at e
    have e2 : ((xs ++ c).drop (i * 4)).take 4 = (xs.drop (i * 4)).take 4 := by
      rw [List.drop_append_of_le_length (by rw [h.len]; omega), List.take_append_of_le_length (by rw [List.length_drop, h.len]; omega)]
    rw [e2]; exact h.at_ i x e
  · have hi2 : i = ks.length := by
      have := (List.getElem?_eq_some_iff.1 e).1
      rw [List.length_append] at this; simp at this; omega
    subst hi2
    rw [List.getElem?_append_right (Nat.le_refl _)] at e
    simp at e
    subst e
    have e2 : ((xs ++ c).drop (ks.length * 4)).take 4 = c := by
      rw [← h.len, List.drop_left, List.take_of_length_le (by omega)]
    rw [e2]; exact hk
/-- The row of the kids, and the kids. -/
theorem KK.kids {K : Type} {R : World → List Value → K → Prop} {G : Nat → Prop} {w : World} {base n : Nat} {e : TypeId} {v : Value} {xs : List Value} {ks : List K} (h : KK R G w xs ks) (ho : w.ownsRow base e 4 v n xs) (hn : n = ks.length) (hg : ∀ g, v.ownBlock = some g → ¬ G g) : KW G w fun W => Kids R W v ks := by
  subst hn
  exact fun W hW => ⟨xs, kw_own ho hg W hW, fun i k e => h.at_ i k e W hW⟩

/-- A struct by numbers: of the type's fields, each as its kind may be, and small. -/
def FitT (s : Schema) : (d : Nat) → Int → St d → Prop
  | 0, _, v => nomatch v
  | d + 1, t, v => Node.num v = 0#64 ∧ Node.bytes v = ⟨#[]⟩ ∧ Node.nums v = [] ∧ (Node.kids v).length = (typeL s t).length ∧
      ∀ (i : Nat) (k : Node (St d)), (Node.kids v)[i]? = some k → hasB (fieldP s t i).1 k = true ∧ (k.bytes.size ≤ 15 ∧ k.nums.length ≤ 3 ∧ k.kids.length ≤ 2) ∧ ∀ x ∈ k.kids, FitT s d (fieldP s t i).2 x
def FitF (s : Schema) (d : Nat) (t : Int) (i : Nat) (k : Node (St d)) : Prop := hasB (fieldP s t i).1 k = true ∧ (k.bytes.size ≤ 15 ∧ k.nums.length ≤ 3 ∧ k.kids.length ≤ 2) ∧ ∀ x ∈ k.kids, FitT s d (fieldP s t i).2 x

theorem firstE_none {α : Type} (f : Nat → α → Int) : ∀ (l : List α) (i : Nat), (∀ (j : Nat) (x : α), l[j]? = some x → f (i + j) x = 0) → firstE f i l = 0
  | [], _, _ => rfl
  | x :: l, i, h => by
    have h0 := h 0 x rfl
    simp only [Nat.add_zero] at h0
    rw [firstE, if_pos h0]
    exact firstE_none f l (i + 1) fun j y hy => by rw [show i + 1 + j = i + (j + 1) by omega]; exact h (j + 1) y (by simpa using hy)

theorem fit_code (s : Schema) : ∀ (d left : Nat) (t : Int) (v : St d), FitT s d t v → d ≤ left → codeT s d left t v = 0
  | 0, _, _, v, _, _ => nomatch v
  | d + 1, left, t, v, h, hl => by
    obtain ⟨h1, h2, h3, h4, h5⟩ := h
    rw [codeT, if_neg (by omega), if_neg (by rw [h1, h2, h3, h4]; simp; rfl)]
    refine firstE_none _ _ 0 fun j k hk => ?_
    obtain ⟨g1, _, g2⟩ := h5 j k hk
    rw [Nat.zero_add, if_pos g1]
    refine firstE_none _ _ 0 fun i x hx => ?_
    exact fit_code s d (left - 1) _ x (g2 x (List.mem_of_getElem? hx)) (by omega)
end SKeep

section STrDeep
open Go.RowKit

theorem maxL_le {α : Type} (f : α → Nat) (l : List α) (b : Nat) (h : ∀ x ∈ l, f x ≤ b) : maxL f l ≤ b := by
  unfold maxL
  have : ∀ (l : List α) (m : Nat), m ≤ b → (∀ x ∈ l, f x ≤ b) → l.foldl (fun m x => max m (f x)) m ≤ b := by
    intro l
    induction l with
    | nil => intro m hm _; exact hm
    | cons x l ih => intro m hm hx; exact ih _ (Nat.max_le.2 ⟨hm, hx x (by simp)⟩) (fun y hy => hx y (by simp [hy]))
  exact this l 0 (Nat.zero_le _) h
theorem deepT_le : ∀ (d : Nat) (t : St d), deepT d t ≤ d
  | 0, v => nomatch v
  | d + 1, v => by
    have := maxL_le (fun k : Node (St d) => maxL (deepT d) k.kids) v.kids d (fun k _ => maxL_le _ _ _ (fun x _ => deepT_le d x))
    simp only [deepT]; omega

theorem max_num (a b : Nat) : Value.int .i64 (if a < b then (b : Int) else (a : Int)) = .int .i64 ((max a b : Nat) : Int) := by
  congr 1; split <;> omega

end STrDeep

section STrDeep2
open Go.RowKit

/-- A box that a call lays first. -/
theorem boxed (w : World) (cs : Array Value) (T : TypeId) : ∃ w1, w.alloc (.cells cs T) = w1 ∧ Below w.heap.size w w1 ∧ w.heap.size < w1.heap.size ∧ ∀ j, w1.cell? ⟨w.heap.size, j, none⟩ = cs[j]? := by
  refine ⟨_, rfl, below_alloc _ _, by simp, fun j => ?_⟩
  have : (w.alloc (.cells cs T)).heap[w.heap.size]? = some (.cells cs T) := by show (w.heap.push _)[w.heap.size]? = _; simp
  simp only [World.cell?, this]
  rfl

end STrDeep2

end Go.Proofs.YtblbhlgihlgncaaDoor


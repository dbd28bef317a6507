/- Readings that hold in every world that agrees outside a set of blocks; and what a struct by numbers is like. -/
import Derived.Test.YtmcpanjpjnlleaaDoorTrV
import Derived.Test.YtmcpanjpjnlleaaDoorOwn
import Derived.Deep.AppendLies
set_option linter.unusedVariables false
namespace Go.Proofs.YtmcpanjpjnlleaaDoor
open Go.RowKit

/-- R holds in every world that agrees with w outside the blocks G. -/
def KW (G : Nat → Prop) (w : World) (R : World → Prop) : Prop := ∀ W : World, (∀ i, i < w.heap.size → ¬ G i → W.heap[i]? = w.heap[i]?) → R W

theorem KW.now {G : Nat → Prop} {w : World} {R : World → Prop} (h : KW G w R) : R w := h w fun _ _ _ => rfl
theorem KW.step {G G' : Nat → Prop} {w w2 : World} {R : World → Prop} (h : KW G w R) (hs : w.heap.size ≤ w2.heap.size) (hk : ∀ i, i < w.heap.size → ¬ G i → ¬ G' i ∧ w2.heap[i]? = w.heap[i]?) : KW G' w2 R :=
  fun W hW => h W fun i hi hg => (hW i (Nat.lt_of_lt_of_le hi hs) (hk i hi hg).1).trans (hk i hi hg).2
theorem KW.below {G : Nat → Prop} {w w2 : World} {R : World → Prop} (h : KW G w R) (hb : Below w.heap.size w w2) : KW G w2 R := h.step hb.size fun i hi hg => ⟨hg, hb.block i hi⟩
theorem KW.grown {G G' : Nat → Prop} {w w2 : World} {row : Option Nat} {R : World → Prop} (h : KW G w R) (hb : w.grownBy w2 row) (hr : ∀ i, row = some i → G i) (hG : ∀ i, i < w.heap.size → G' i → G i) : KW G' w2 R :=
  h.step hb.size fun i hi hg => ⟨fun h' => hg (hG i hi h'), hb.block i hi fun e => hg (hr i e.symm)⟩
theorem KW.set {G : Nat → Prop} {w : World} {R : World → Prop} (h : KW G w R) (p : Addr) (u : Value) (hp : G p.block) : KW G (w.setCell p u) R :=
  h.step (by simp [World.setCell]) fun i hi hg => ⟨hg, Below.heap_setCell w p u i (fun e => hg (e ▸ hp))⟩
theorem KW.mono {G G' : Nat → Prop} {w : World} {R : World → Prop} (h : KW G w R) (hG : ∀ i, i < w.heap.size → G' i → G i) : KW G' w R := h.step (Nat.le_refl _) fun i hi hg => ⟨fun h' => hg (hG i hi h'), rfl⟩
theorem KW.of_below {w w2 : World} {R : World → Prop} (h : ∀ W, Below w2.heap.size w2 W → R W) : True := trivial

/-- A row of the call's own is read in all of them, but for its block. -/
theorem kw_own {G : Nat → Prop} {w : World} {base : Nat} {e : TypeId} {sz n : Nat} {v : Value} {xs : List Value} (h : w.ownsRow base e sz v n xs) (hg : ∀ g, v.ownBlock = some g → ¬ G g) : KW G w fun W => Row W sz v n xs := fun W hW =>
  Row.of_owns (own_keep h fun g e => hW g (own_blk h e).1.lt (hg g e))

/-- Kids by their cells, each read in all worlds that agree outside G. -/
structure KK {K : Type} (R : World → List Value → K → Prop) (G : Nat → Prop) (w : World) (xs : List Value) (ks : List K) : Prop where
  len : xs.length = ks.length * 4
  at_ : ∀ (i : Nat) (k : K), ks[i]? = some k → KW G w fun W => R W ((xs.drop (i * 4)).take 4) k
theorem KK.nil {K : Type} (R : World → List Value → K → Prop) (G : Nat → Prop) (w : World) : KK R G w [] [] := ⟨rfl, fun i k h => by simp at h⟩
theorem KK.step {K : Type} {R : World → List Value → K → Prop} {G G' : Nat → Prop} {w w2 : World} {xs : List Value} {ks : List K} (h : KK R G w xs ks) (hs : w.heap.size ≤ w2.heap.size) (hk : ∀ i, i < w.heap.size → ¬ G i → ¬ G' i ∧ w2.heap[i]? = w.heap[i]?) : KK R G' w2 xs ks :=
  ⟨h.len, fun i k e => (h.at_ i k e).step hs hk⟩
theorem KK.below {K : Type} {R : World → List Value → K → Prop} {G : Nat → Prop} {w w2 : World} {xs : List Value} {ks : List K} (h : KK R G w xs ks) (hb : Below w.heap.size w w2) : KK R G w2 xs ks := ⟨h.len, fun i k e => (h.at_ i k e).below hb⟩
theorem KK.grown {K : Type} {R : World → List Value → K → Prop} {G G' : Nat → Prop} {w w2 : World} {row : Option Nat} {xs : List Value} {ks : List K} (h : KK R G w xs ks) (hb : w.grownBy w2 row) (hr : ∀ i, row = some i → G i) (hG : ∀ i, i < w.heap.size → G' i → G i) : KK R G' w2 xs ks := ⟨h.len, fun i k e => (h.at_ i k e).grown hb hr hG⟩
theorem KK.set {K : Type} {R : World → List Value → K → Prop} {G : Nat → Prop} {w : World} {xs : List Value} {ks : List K} (h : KK R G w xs ks) (p : Addr) (u : Value) (hp : G p.block) : KK R G (w.setCell p u) xs ks := ⟨h.len, fun i k e => (h.at_ i k e).set p u hp⟩
theorem KK.mono {K : Type} {R : World → List Value → K → Prop} {G G' : Nat → Prop} {w : World} {xs : List Value} {ks : List K} (h : KK R G w xs ks) (hG : ∀ i, i < w.heap.size → G' i → G i) : KK R G' w xs ks := ⟨h.len, fun i k e => (h.at_ i k e).mono hG⟩
theorem KK.add {K : Type} {R : World → List Value → K → Prop} {G : Nat → Prop} {w : World} {xs : List Value} {ks : List K} (h : KK R G w xs ks) (c : List Value) (k : K) (hc : c.length = 4) (hk : KW G w fun W => R W c k) : KK R G w (xs ++ c) (ks ++ [k]) := by
  refine ⟨by rw [List.length_append, List.length_append, h.len, hc]; simp; omega, fun i x e => ?_⟩
  by_cases hi : i < ks.length
  · rw [List.getElem?_append_left hi] at e
    have e2 : ((xs ++ c).drop (i * 4)).take 4 = (xs.drop (i * 4)).take 4 := by
      rw [List.drop_append_of_le_length (by rw [h.len]; omega), List.take_append_of_le_length (by rw [List.length_drop, h.len]; omega)]
    rw [e2]; exact h.at_ i x e
  · have hi2 : i = ks.length := by
      have := (List.getElem?_eq_some_iff.1 e).1
      rw [List.length_append] at this; simp at this; omega
    subst hi2
    rw [List.getElem?_append_right (Nat.le_refl _)] at e
    simp at e
    subst e
    have e2 : ((xs ++ c).drop (ks.length * 4)).take 4 = c := by
      rw [← h.len, List.drop_left, List.take_of_length_le (by omega)]
    rw [e2]; exact hk
/-- The row of the kids, and the kids. -/
theorem KK.kids {K : Type} {R : World → List Value → K → Prop} {G : Nat → Prop} {w : World} {base n : Nat} {e : TypeId} {v : Value} {xs : List Value} {ks : List K} (h : KK R G w xs ks) (ho : w.ownsRow base e 4 v n xs) (hn : n = ks.length) (hg : ∀ g, v.ownBlock = some g → ¬ G g) : KW G w fun W => Kids R W v ks := by
  subst hn
  exact fun W hW => ⟨xs, kw_own ho hg W hW, fun i k e => h.at_ i k e W hW⟩

/-- A struct by numbers: of the type's fields, each as its kind may be, and small. -/
def FitT (s : Schema) : (d : Nat) → Int → St d → Prop
  | 0, _, v => nomatch v
  | d + 1, t, v => Node.num v = 0#64 ∧ Node.bytes v = ⟨#[]⟩ ∧ Node.nums v = [] ∧ (Node.kids v).length = (typeL s t).length ∧
      ∀ (i : Nat) (k : Node (St d)), (Node.kids v)[i]? = some k → hasB (fieldP s t i).1 k = true ∧ (k.bytes.size ≤ 15 ∧ k.nums.length ≤ 3 ∧ k.kids.length ≤ 2) ∧ ∀ x ∈ k.kids, FitT s d (fieldP s t i).2 x
def FitF (s : Schema) (d : Nat) (t : Int) (i : Nat) (k : Node (St d)) : Prop := hasB (fieldP s t i).1 k = true ∧ (k.bytes.size ≤ 15 ∧ k.nums.length ≤ 3 ∧ k.kids.length ≤ 2) ∧ ∀ x ∈ k.kids, FitT s d (fieldP s t i).2 x

theorem firstE_none {α : Type} (f : Nat → α → Int) : ∀ (l : List α) (i : Nat), (∀ (j : Nat) (x : α), l[j]? = some x → f (i + j) x = 0) → firstE f i l = 0
  | [], _, _ => rfl
  | x :: l, i, h => by
    have h0 := h 0 x rfl
    simp only [Nat.add_zero] at h0
    rw [firstE, if_pos h0]
    exact firstE_none f l (i + 1) fun j y hy => by rw [show i + 1 + j = i + (j + 1) by omega]; exact h (j + 1) y (by simpa using hy)

theorem fit_code (s : Schema) : ∀ (d left : Nat) (t : Int) (v : St d), FitT s d t v → d ≤ left → codeT s d left t v = 0
  | 0, _, _, v, _, _ => nomatch v
  | d + 1, left, t, v, h, hl => by
    obtain ⟨h1, h2, h3, h4, h5⟩ := h
    rw [codeT, if_neg (by omega), if_neg (by rw [h1, h2, h3, h4]; simp; rfl)]
    refine firstE_none _ _ 0 fun j k hk => ?_
    obtain ⟨g1, _, g2⟩ := h5 j k hk
    rw [Nat.zero_add, if_pos g1]
    refine firstE_none _ _ 0 fun i x hx => ?_
    exact fit_code s d (left - 1) _ x (g2 x (List.mem_of_getElem? hx)) (by omega)
end Go.Proofs.YtmcpanjpjnlleaaDoor


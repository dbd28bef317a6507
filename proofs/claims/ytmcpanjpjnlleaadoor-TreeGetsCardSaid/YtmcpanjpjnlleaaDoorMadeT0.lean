/- What is kept while a struct by numbers is made. -/
import Derived.Test.YtmcpanjpjnlleaaDoorKeep
import Derived.Test.YtmcpanjpjnlleaaDoorMade
set_option linter.unusedVariables false
namespace Go.Proofs.YtmcpanjpjnlleaaDoor
open Go.RowKit

/-- A tree's box. -/
structure TB (w : World) (B : Nat) (x0 x1 x2 x3 : Value) : Prop where
  lt : B < w.heap.size
  c0 : w.cell? ⟨B, 0, none⟩ = some x0
  c1 : w.cell? ⟨B, 1, none⟩ = some x1
  c2 : w.cell? ⟨B, 2, none⟩ = some x2
  c3 : w.cell? ⟨B, 3, none⟩ = some x3
  fz : ∀ j, w.frozen? ⟨B, j, none⟩ = false
theorem TB.of_block {w w' : World} {B : Nat} {x0 x1 x2 x3 : Value} (h : TB w B x0 x1 x2 x3) (hb : w'.heap[B]? = w.heap[B]?) (hs : B < w'.heap.size) : TB w' B x0 x1 x2 x3 := by
  have e : ∀ j, w'.cell? ⟨B, j, none⟩ = w.cell? ⟨B, j, none⟩ := fun j => World.cell?_of_block (a := ⟨B, j, none⟩) hb
  have e2 : ∀ j, w'.frozen? ⟨B, j, none⟩ = w.frozen? ⟨B, j, none⟩ := fun j => World.frozen?_of_block (a := ⟨B, j, none⟩) hb
  exact ⟨hs, by rw [e]; exact h.c0, by rw [e]; exact h.c1, by rw [e]; exact h.c2, by rw [e]; exact h.c3, fun j => by rw [e2]; exact h.fz j⟩
theorem TB.below {w w' : World} {B : Nat} {x0 x1 x2 x3 : Value} (h : TB w B x0 x1 x2 x3) (hb : Below w.heap.size w w') : TB w' B x0 x1 x2 x3 := h.of_block (hb.block B h.lt) (Nat.lt_of_lt_of_le h.lt hb.size)
theorem TB.grown {w w' : World} {B : Nat} {row : Option Nat} {x0 x1 x2 x3 : Value} (h : TB w B x0 x1 x2 x3) (hb : w.grownBy w' row) (hr : row ≠ some B) : TB w' B x0 x1 x2 x3 := h.of_block (hb.block B h.lt (fun e => hr e.symm)) (Nat.lt_of_lt_of_le h.lt hb.size)
theorem TB.far {w : World} {B b o : Nat} {x0 x1 x2 x3 : Value} (h : TB w B x0 x1 x2 x3) (hb : b ≠ B) (u : Value) : TB (w.setCell ⟨b, o, none⟩ u) B x0 x1 x2 x3 := h.of_block (Below.heap_setCell _ _ _ _ (fun e => hb e.symm)) (by simpa [World.setCell] using h.lt)
theorem TB.key {w : World} {B j : Nat} (u : Value) (i : Nat) (hi : i ≠ j) : (w.setCell ⟨B, j, none⟩ u).cell? ⟨B, i, none⟩ = w.cell? ⟨B, i, none⟩ := by simp [go_sem]
theorem TB.set0 {w : World} {B : Nat} {x0 x1 x2 x3 : Value} (h : TB w B x0 x1 x2 x3) (u : Value) : TB (w.setCell ⟨B, 0, none⟩ u) B u x1 x2 x3 :=
  ⟨by simpa [World.setCell] using h.lt, World.cell?_setCell_same w _ _ h.c0, by rw [TB.key u 1 (by omega)]; exact h.c1, by rw [TB.key u 2 (by omega)]; exact h.c2, by rw [TB.key u 3 (by omega)]; exact h.c3, fun i => by rw [World.frozen?_setCell]; exact h.fz i⟩
theorem TB.set1 {w : World} {B : Nat} {x0 x1 x2 x3 : Value} (h : TB w B x0 x1 x2 x3) (u : Value) : TB (w.setCell ⟨B, 1, none⟩ u) B x0 u x2 x3 :=
  ⟨by simpa [World.setCell] using h.lt, by rw [TB.key u 0 (by omega)]; exact h.c0, World.cell?_setCell_same w _ _ h.c1, by rw [TB.key u 2 (by omega)]; exact h.c2, by rw [TB.key u 3 (by omega)]; exact h.c3, fun i => by rw [World.frozen?_setCell]; exact h.fz i⟩
theorem TB.set2 {w : World} {B : Nat} {x0 x1 x2 x3 : Value} (h : TB w B x0 x1 x2 x3) (u : Value) : TB (w.setCell ⟨B, 2, none⟩ u) B x0 x1 u x3 :=
  ⟨by simpa [World.setCell] using h.lt, by rw [TB.key u 0 (by omega)]; exact h.c0, by rw [TB.key u 1 (by omega)]; exact h.c1, World.cell?_setCell_same w _ _ h.c2, by rw [TB.key u 3 (by omega)]; exact h.c3, fun i => by rw [World.frozen?_setCell]; exact h.fz i⟩
theorem TB.set3 {w : World} {B : Nat} {x0 x1 x2 x3 : Value} (h : TB w B x0 x1 x2 x3) (u : Value) : TB (w.setCell ⟨B, 3, none⟩ u) B x0 x1 x2 u :=
  ⟨by simpa [World.setCell] using h.lt, by rw [TB.key u 0 (by omega)]; exact h.c0, by rw [TB.key u 1 (by omega)]; exact h.c1, by rw [TB.key u 2 (by omega)]; exact h.c2, World.cell?_setCell_same w _ _ h.c3, fun i => by rw [World.frozen?_setCell]; exact h.fz i⟩
theorem TB.make (w : World) (x0 x1 x2 x3 : Value) (T : TypeId) : ∃ w1, w.alloc (.cells #[x0, x1, x2, x3] T) = w1 ∧ Below w.heap.size w w1 ∧ w1.heap.size = w.heap.size + 1 ∧ TB w1 w.heap.size x0 x1 x2 x3 :=
  ⟨_, rfl, below_alloc _ _, by simp, by simp, by simp, by simp, by simp, by simp, fun j => by simp [go_sem]⟩

/-- A rest of a row of numbers. -/
def Suf (u : Value) (l : List Int) (v : Value) (m : List Int) : Prop := (∀ W, Row W 1 u l.length (l.map (Value.int .i64)) → Row W 1 v m.length (m.map (Value.int .i64))) ∧ ∀ z ∈ m, z ∈ l
theorem Suf.refl (u : Value) (l : List Int) : Suf u l u l := ⟨fun _ h => h, fun _ h => h⟩
theorem Suf.trans {u v x : Value} {l m n : List Int} (h : Suf u l v m) (k : Suf v m x n) : Suf u l x n := ⟨fun W hW => k.1 W (h.1 W hW), fun z hz => h.2 z (k.2 z hz)⟩
theorem Suf.tail (b off n cap : Nat) (z : Int) (l : List Int) (hn : n = l.length) : Suf (.slice (some ⟨b, off, none⟩) (n + 1) cap) (z :: l) (.slice (if cap = 1 then some ⟨b, off, none⟩ else some ⟨b, off + 1, none⟩) n (cap - 1)) l := by
  subst hn
  refine ⟨fun W h => ?_, fun x hx => List.mem_cons_of_mem _ hx⟩
  obtain ⟨h1, h2, a, c, e, h4, h5, h6, h7⟩ := h
  simp only [Value.slice.injEq] at e
  obtain ⟨ea, -, ec⟩ := e
  subst ec
  obtain ⟨b', off', e2, hlt, hc⟩ := h7 (by simp)
  rw [← ea] at e2
  simp only [Option.some.injEq, Addr.mk.injEq, and_true] at e2
  obtain ⟨rfl, rfl⟩ := e2
  simp only [List.length_cons] at h2 h4
  refine ⟨by simp, by omega, _, cap - 1, rfl, by omega, by omega, (fun h => by split at h <;> cases h), fun h0 => ⟨b, off + 1, ?_, hlt, fun j hj => ?_⟩⟩
  · rw [if_neg (by omega)]
  have := hc (j + 1) (by simp; omega)
  rw [show off + 1 + j = off + (j + 1) by omega, this]
  simp

/-- The struct so far: i fields are made. -/
structure OutI (s : Schema) (D : Nat) (t : Int) (w w2 : World) (R V : Nat) (i : Nat) (ks : List (Node (St D))) (xs : List Value) (vk : Value) (wr : World) : Prop where
  kl : ks.length = i
  bl : Below w.heap.size w wr
  sz : w2.heap.size ≤ wr.heap.size
  tv : TB wr V (.int .u64 0) (.string ⟨#[]⟩) (.slice none 0 0) vk
  tr : TB wr R (.int .u64 0) (.string ⟨#[]⟩) (.slice none 0 0) (.slice none 0 0)
  own : wr.ownsRow w2.heap.size 34 4 vk i xs
  kk : KK (RdF D) (fun b => b < w2.heap.size ∨ vk.ownBlock = some b) wr xs ks
  fit : ∀ (j : Nat) (k : Node (St D)), ks[j]? = some k → FitF s D t j k
  vr : w.heap.size ≤ R ∧ R < V ∧ V < w2.heap.size

/-- A field is made. -/
structure FieldI (s : Schema) (D : Nat) (t : Int) (i : Nat) (wi w5 : World) (B : Nat) (k : Node (St D)) (x0 x1 x2 x3 : Value) : Prop where
  bl : Below wi.heap.size wi w5
  tb : TB w5 B x0 x1 x2 x3
  rd : KW (fun b => b < wi.heap.size) w5 fun W => RdF D W [x0, x1, x2, x3] k
  fit : FitF s D t i k

theorem OutI.next {s : Schema} {D : Nat} {t : Int} {w w2 : World} {R V i : Nat} {ks : List (Node (St D))} {xs : List Value} {vk : Value} {wi w5 w7 : World} {B : Nat} {k : Node (St D)} {x0 x1 x2 x3 : Value} {T : TypeId} {v' : Value}
    (h : OutI s D t w w2 R V i ks xs vk wi) (hf : FieldI s D t i wi w5 B k x0 x1 x2 x3)
    (ho : w7.ownsRow w2.heap.size 34 4 v' (i + 1) (xs ++ [x0, x1, x2, x3])) (hg : (w5.alloc (.cells #[x0, x1, x2, x3] T)).grownBy w7 vk.ownBlock)
    (hat : v'.ownBlock = vk.ownBlock ∨ v'.ownBlock = some (w5.alloc (.cells #[x0, x1, x2, x3] T)).heap.size) :
    OutI s D t w w2 R V (i + 1) (ks ++ [k]) (xs ++ [x0, x1, x2, x3]) v' (w7.setCell ⟨V, 3, none⟩ v') := by
  obtain ⟨hv1, hv2, hv3⟩ := h.vr
  have b5 : Below w5.heap.size w5 (w5.alloc (.cells #[x0, x1, x2, x3] T)) := below_alloc _ _
  have bi5 := via hf.bl b5
  have hrow : ∀ b, vk.ownBlock = some b → w2.heap.size ≤ b ∧ b < wi.heap.size := fun b e => ⟨(own_blk h.own e).2, (own_blk h.own e).1.lt⟩
  have hs5 : wi.heap.size ≤ (w5.alloc (.cells #[x0, x1, x2, x3] T)).heap.size := bi5.size
  have hsz := h.sz
  have hwi := h.bl.size
  have hg7 := hg.size
  have hG : ∀ b, b < (w5.alloc (.cells #[x0, x1, x2, x3] T)).heap.size → (b < w2.heap.size ∨ v'.ownBlock = some b) → (b < w2.heap.size ∨ vk.ownBlock = some b) := fun b hb e => by
    rcases e with e | e
    · exact .inl e
    · rcases hat with e2 | e2
      · exact .inr (e2 ▸ e)
      · rw [e2] at e; have := Option.some.inj e; omega
  refine ⟨by simp [h.kl], ?_, ?_, ?_, ?_, ?_, ?_, ?_, h.vr⟩
  · have hb7 : Below w.heap.size w w7 := (h.bl.trans (bi5.mono hwi)).grown hg (by omega) fun b e => by have := (hrow b e).1; omega
    exact hb7.setCell (by show w.heap.size ≤ V; omega) _
  · show w2.heap.size ≤ (w7.setCell ⟨V, 3, none⟩ v').heap.size
    simp [World.setCell]; omega
  · exact ((h.tv.below bi5).grown hg fun e => by have := (hrow _ e).1; omega).set3 _
  · exact ((h.tr.below bi5).grown hg fun e => by have := (hrow _ e).1; omega).far (by omega) _
  · refine own_keep ho fun g e => Below.heap_setCell _ _ _ _ ?_
    have := (own_blk ho e).2
    show g ≠ V; omega
  · refine KK.set (p := ⟨V, 3, none⟩) (hp := .inl hv3) (u := v') (KK.add ?_ _ _ rfl ?_)
    · exact (h.kk.below bi5).grown hg (fun b e => .inr e) hG
    · refine (hf.rd.below b5).grown hg (fun b e => (hrow b e).2) fun b hb e => ?_
      rcases hG b hb e with e2 | e2
      · show b < wi.heap.size; omega
      · exact (hrow b e2).2
  · intro j x hx
    by_cases hj : j < ks.length
    · rw [List.getElem?_append_left hj] at hx; exact h.fit j x hx
    · have hj2 : j = ks.length := by
        have := (List.getElem?_eq_some_iff.1 hx).1
        rw [List.length_append] at this; simp at this; omega
      subst hj2
      rw [List.getElem?_append_right (Nat.le_refl _)] at hx
      simp at hx
      subst hx
      rw [h.kl]; exact hf.fit

/-- The structs of a field so far. -/
structure InI (s : Schema) (D : Nat) (ty : Int) (wi wk : World) (B : Nat) (j : Nat) (ks : List (St D)) (xs : List Value) (kv : Value) (wr : World) : Prop where
  kl : ks.length = j
  bl : Below wi.heap.size wi wr
  sz : wk.heap.size ≤ wr.heap.size
  bk : ∀ b, b < wk.heap.size → b ≠ B → wr.heap[b]? = wk.heap[b]?
  tb : TB wr B (.int .u64 0) (.string ⟨#[]⟩) (.slice none 0 0) kv
  own : wr.ownsRow wk.heap.size 34 4 kv j xs
  kk : KK (RdS D) (fun b => b < wk.heap.size ∨ kv.ownBlock = some b) wr xs ks
  fit : ∀ x ∈ ks, FitT s D ty x
  vr : wi.heap.size ≤ B ∧ B < wk.heap.size

theorem InI.next {s : Schema} {D : Nat} {ty : Int} {wi wk : World} {B j : Nat} {ks : List (St D)} {xs : List Value} {kv : Value} {wr w5 w6 w7 : World} {k : St D} {x0 x1 x2 x3 : Value} {v' : Value}
    (h : InI s D ty wi wk B j ks xs kv wr) (hb5 : Below wr.heap.size wr w5) (hrd : KW (fun b => b < wr.heap.size) w5 fun W => RdS D W [x0, x1, x2, x3] k) (hfit : FitT s D ty k)
    (h6 : Below w5.heap.size w5 w6)
    (ho : w7.ownsRow wk.heap.size 34 4 v' (j + 1) (xs ++ [x0, x1, x2, x3])) (hg : w6.grownBy w7 kv.ownBlock)
    (hat : v'.ownBlock = kv.ownBlock ∨ v'.ownBlock = some w6.heap.size) :
    InI s D ty wi wk B (j + 1) (ks ++ [k]) (xs ++ [x0, x1, x2, x3]) v' (w7.setCell ⟨B, 3, none⟩ v') := by
  obtain ⟨hv1, hv2⟩ := h.vr
  have bi5 := via hb5 h6
  have hrow : ∀ b, kv.ownBlock = some b → wk.heap.size ≤ b ∧ b < wr.heap.size := fun b e => ⟨(own_blk h.own e).2, (own_blk h.own e).1.lt⟩
  have hs5 : wr.heap.size ≤ w6.heap.size := bi5.size
  have hsz := h.sz
  have hwi := h.bl.size
  have hg7 := hg.size
  have hG : ∀ b, b < w6.heap.size → (b < wk.heap.size ∨ v'.ownBlock = some b) → (b < wk.heap.size ∨ kv.ownBlock = some b) := fun b hb e => by
    rcases e with e | e
    · exact .inl e
    · rcases hat with e2 | e2
      · exact .inr (e2 ▸ e)
      · rw [e2] at e; have := Option.some.inj e; omega
  refine ⟨by simp [h.kl], ?_, ?_, ?_, ?_, ?_, ?_, ?_, h.vr⟩
  · have hb7 : Below wi.heap.size wi w7 := (h.bl.trans (bi5.mono hwi)).grown hg (by omega) fun b e => by have := (hrow b e).1; omega
    exact hb7.setCell (by show wi.heap.size ≤ B; omega) _
  · show wk.heap.size ≤ (w7.setCell ⟨B, 3, none⟩ v').heap.size
    simp [World.setCell]; omega
  · intro b hb hne
    rw [Below.heap_setCell _ _ _ _ (show b ≠ B from hne), hg.block b (by omega) (fun e => by have := (hrow b e.symm).1; omega), bi5.block b (by omega)]
    exact h.bk b hb hne
  · exact ((h.tb.below bi5).grown hg fun e => by have := (hrow _ e).1; omega).set3 _
  · refine own_keep ho fun g e => Below.heap_setCell _ _ _ _ ?_
    have := (own_blk ho e).2
    show g ≠ B; omega
  · refine KK.set (p := ⟨B, 3, none⟩) (hp := .inl hv2) (u := v') (KK.add ?_ _ _ rfl ?_)
    · exact (h.kk.below bi5).grown hg (fun b e => .inr e) hG
    · refine (hrd.below h6).grown hg (fun b e => (hrow b e).2) fun b hb e => ?_
      rcases hG b hb e with e2 | e2
      · show b < wr.heap.size; omega
      · exact (hrow b e2).2
  · intro x hx
    rcases List.mem_append.1 hx with hx | hx
    · exact h.fit x hx
    · rw [List.mem_singleton.1 hx]; exact hfit

/-- The row of structs is read. -/
theorem InI.read {s : Schema} {D : Nat} {ty : Int} {wi wk : World} {B j : Nat} {ks : List (St D)} {xs : List Value} {kv : Value} {wr : World} (h : InI s D ty wi wk B j ks xs kv wr) (hj : j ≤ 2) :
    KW (fun b => b < wi.heap.size) wr fun W => RdF D W [.int .u64 0, .string ⟨#[]⟩, .slice none 0 0, kv] ⟨0#64, ⟨#[]⟩, [], ks⟩ := by
  obtain ⟨hv1, hv2⟩ := h.vr
  have h1 : KK (RdS D) (fun b => b < wi.heap.size) wr xs ks := h.kk.mono fun b _ e => .inl (by omega)
  have h2 := h1.kids h.own h.kl.symm fun g e => by have := (own_blk h.own e).2; show ¬ g < wi.heap.size; omega
  intro W hW
  exact RdN.mk' (t := ⟨0#64, ⟨#[]⟩, [], ks⟩) ⟨by show (⟨#[]⟩ : ByteArray).size ≤ 1000; decide, by simp, by show ks.length ≤ 1000; rw [h.kl]; omega⟩ (Row.nil W 1) (h2 W hW)

theorem OutI.done {s : Schema} {D : Nat} {t : Int} {w w2 : World} {V N : Nat} {ks : List (Node (St D))} {xs : List Value} {vk : Value} {wr w9 : World} (h : OutI s D t w w2 w.heap.size V N ks xs vk wr)
    (hN : N = (typeL s t).length) (hn : N ≤ 1000) (hk : ∀ b, b ≠ w.heap.size → w9.heap[b]? = wr.heap[b]?) (hs : w9.heap.size = wr.heap.size) :
    KW (fun b => b < w.heap.size) w9 (fun W => RdS (D + 1) W [.int .u64 0, .string ⟨#[]⟩, .slice none 0 0, vk] (⟨0#64, ⟨#[]⟩, [], ks⟩ : Node (Node (St D)))) ∧ FitT s (D + 1) t (⟨0#64, ⟨#[]⟩, [], ks⟩ : Node (Node (St D))) := by
  obtain ⟨hv1, hv2, hv3⟩ := h.vr
  have hne : ∀ g, vk.ownBlock = some g → g ≠ w.heap.size ∧ ¬ g < w2.heap.size := fun g e => by have := (own_blk h.own e).2; omega
  have ho : w9.ownsRow w2.heap.size 34 4 vk N xs := own_keep h.own fun g e => hk g (hne g e).1
  have h1 : KK (RdF D) (fun b => b < w2.heap.size) w9 xs ks := h.kk.step (by omega) fun b hb hg => ⟨fun e => hg (.inl e), hk b fun e => hg (.inl (by omega))⟩
  have h2 := h1.kids ho h.kl.symm fun g e => (hne g e).2
  refine ⟨fun W hW => ?_, rfl, rfl, rfl, ?_, fun i k e => h.fit i k e⟩
  · have h3 := h2 W fun b hb hg => hW b hb fun e => hg (by omega)
    exact RdN.mk' (t := (⟨0#64, ⟨#[]⟩, [], ks⟩ : Node (Node (St D)))) ⟨by show (⟨#[]⟩ : ByteArray).size ≤ 1000; decide, by simp, by show ks.length ≤ 1000; rw [h.kl]; exact hn⟩ (Row.nil W 1) h3
  · show ks.length = _
    rw [h.kl]; exact hN
end Go.Proofs.YtmcpanjpjnlleaaDoor


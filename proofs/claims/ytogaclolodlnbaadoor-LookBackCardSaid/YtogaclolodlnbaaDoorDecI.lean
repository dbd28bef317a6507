/- What is kept while a struct is decoded. -/
import Derived.Test.YtogaclolodlnbaaDoorGh
import Derived.Test.YtogaclolodlnbaaDoorDecV
set_option linter.unusedVariables false
set_option linter.unusedSimpArgs false
namespace Go.Proofs.YtogaclolodlnbaaDoor
section SDecI
open Go.RowKit

theorem range_map_succ {α : Type} (F : Nat → α) (i : Nat) : (List.range (i + 1)).map F = (List.range i).map F ++ [F i] := by rw [List.range_succ, List.map_append]; rfl

/-- The struct so far: i fields are decoded. R: the result's box; V: the variable's. -/
structure OutJ {D : Nat} (F : Nat → Node (St D)) (w w2 : World) (R V i : Nat) (xs : List Value) (vk : Value) (wr : World) : Prop where
  bl : Below w.heap.size w wr
  sz : w2.heap.size ≤ wr.heap.size
  tv : TB wr V (.int .u64 0) (.string ⟨#[]⟩) (.slice none 0 0) vk
  tr : TB wr R (.int .u64 0) (.string ⟨#[]⟩) (.slice none 0 0) (.slice none 0 0)
  own : wr.ownsRow w2.heap.size 49 4 vk i xs
  kk : KK (RdF D) (fun b => b < w2.heap.size ∨ vk.ownBlock = some b) wr xs ((List.range i).map F)
  vr : w.heap.size ≤ R ∧ R < V ∧ V < w2.heap.size

/-- A field is decoded: its box is B. -/
structure FieldJ {D : Nat} (k : Node (St D)) (wi w5 : World) (B : Nat) (x0 x1 x2 x3 : Value) : Prop where
  bl : Below wi.heap.size wi w5
  tb : TB w5 B x0 x1 x2 x3
  rd : KW (fun b => b < wi.heap.size) w5 fun W => RdF D W [x0, x1, x2, x3] k

theorem OutJ.next {D : Nat} {F : Nat → Node (St D)} {w w2 : World} {R V i : Nat} {xs : List Value} {vk : Value} {wi w5 w6 w7 : World} {B : Nat} {k : Node (St D)} {x0 x1 x2 x3 : Value} {v' : Value}
    (h : OutJ F w w2 R V i xs vk wi) (hf : FieldJ k wi w5 B x0 x1 x2 x3) (hk : k = F i) (b5 : Below w5.heap.size w5 w6)
    (ho : w7.ownsRow w2.heap.size 49 4 v' (i + 1) (xs ++ [x0, x1, x2, x3])) (hg : w6.grownBy w7 vk.ownBlock)
    (hat : v'.ownBlock = vk.ownBlock ∨ v'.ownBlock = some w6.heap.size) :
    OutJ F w w2 R V (i + 1) (xs ++ [x0, x1, x2, x3]) v' (w7.setCell ⟨V, 3, none⟩ v') := by
  obtain ⟨hv1, hv2, hv3⟩ := h.vr
  have bi5 := via hf.bl b5
  have hrow : ∀ b, vk.ownBlock = some b → w2.heap.size ≤ b ∧ b < wi.heap.size := fun b e => ⟨(own_blk h.own e).2, (own_blk h.own e).1.lt⟩
  have hs5 : wi.heap.size ≤ w6.heap.size := bi5.size
  have hsz := h.sz
  have hwi := h.bl.size
  have hg7 := hg.size
  have hG : ∀ b, b < w6.heap.size → (b < w2.heap.size ∨ v'.ownBlock = some b) → (b < w2.heap.size ∨ vk.ownBlock = some b) := fun b hb e => by
    rcases e with e | e
    · exact .inl e
    · rcases hat with e2 | e2
      · exact .inr (e2 ▸ e)
      · rw [e2] at e; have := Option.some.inj e; omega
  refine ⟨?_, ?_, ?_, ?_, ?_, ?_, h.vr⟩
  · have hb7 : Below w.heap.size w w7 := (h.bl.trans (bi5.mono hwi)).grown hg (by omega) fun b e => by have := (hrow b e).1; omega
    exact hb7.setCell (by show w.heap.size ≤ V; omega) _
  · show w2.heap.size ≤ (w7.setCell ⟨V, 3, none⟩ v').heap.size
    simp [World.setCell]; omega
  · exact ((h.tv.below bi5).grown hg fun e => by have := (hrow _ e).1; omega).set3 _
  · exact ((h.tr.below bi5).grown hg fun e => by have := (hrow _ e).1; omega).far (by omega) _
  · refine own_keep ho fun g e => Below.heap_setCell _ _ _ _ ?_
    have := (own_blk ho e).2
    show g ≠ V; omega
  · rw [range_map_succ, ← hk]
    refine KK.set (p := ⟨V, 3, none⟩) (hp := .inl hv3) (u := v') (KK.add ?_ _ _ rfl ?_)
    · exact (h.kk.below bi5).grown hg (fun b e => .inr e) hG
    · refine (hf.rd.below b5).grown hg (fun b e => (hrow b e).2) fun b hb e => ?_
      rcases hG b hb e with e2 | e2
      · show b < wi.heap.size; omega
      · exact (hrow b e2).2

/-- The structs of a field so far. -/
structure InJ {D : Nat} (F : Nat → St D) (wi wk : World) (B j : Nat) (xs : List Value) (kv : Value) (wr : World) : Prop where
  bl : Below wi.heap.size wi wr
  sz : wk.heap.size ≤ wr.heap.size
  bk : ∀ b, b < wk.heap.size → b ≠ B → wr.heap[b]? = wk.heap[b]?
  tb : TB wr B (.int .u64 0) (.string ⟨#[]⟩) (.slice none 0 0) kv
  own : wr.ownsRow wk.heap.size 49 4 kv j xs
  kk : KK (RdS D) (fun b => b < wk.heap.size ∨ kv.ownBlock = some b) wr xs ((List.range j).map F)
  vr : wi.heap.size ≤ B ∧ B < wk.heap.size

theorem InJ.next {D : Nat} {F : Nat → St D} {wi wk : World} {B j : Nat} {xs : List Value} {kv : Value} {wr w5 w6 w7 : World} {k : St D} {x0 x1 x2 x3 : Value} {v' : Value}
    (h : InJ F wi wk B j xs kv wr) (hb5 : Below wr.heap.size wr w5) (hrd : KW (fun b => b < wr.heap.size) w5 fun W => RdS D W [x0, x1, x2, x3] k) (hk : k = F j)
    (h6 : Below w5.heap.size w5 w6)
    (ho : w7.ownsRow wk.heap.size 49 4 v' (j + 1) (xs ++ [x0, x1, x2, x3])) (hg : w6.grownBy w7 kv.ownBlock)
    (hat : v'.ownBlock = kv.ownBlock ∨ v'.ownBlock = some w6.heap.size) :
    InJ F wi wk B (j + 1) (xs ++ [x0, x1, x2, x3]) v' (w7.setCell ⟨B, 3, none⟩ v') := by
  obtain ⟨hv1, hv2⟩ := h.vr
  have bi5 := via hb5 h6
  have hrow : ∀ b, kv.ownBlock = some b → wk.heap.size ≤ b ∧ b < wr.heap.size := fun b e => ⟨(own_blk h.own e).2, (own_blk h.own e).1.lt⟩
  have hs5 : wr.heap.size ≤ w6.heap.size := bi5.size
  have hsz := h.sz
  have hwi := h.bl.size
  have hg7 := hg.size
  have hG : ∀ b, b < w6.heap.size → (b < wk.heap.size ∨ v'.ownBlock = some b) → (b < wk.heap.size ∨ kv.ownBlock = some b) := fun b hb e => by
    rcases e with e | e
    · exact .inl e
    · rcases hat with e2 | e2
      · exact .inr (e2 ▸ e)
      · rw [e2] at e; have := Option.some.inj e; omega
  refine ⟨?_, ?_, ?_, ?_, ?_, ?_, h.vr⟩
  · have hb7 : Below wi.heap.size wi w7 := (h.bl.trans (bi5.mono hwi)).grown hg (by omega) fun b e => by have := (hrow b e).1; omega
    exact hb7.setCell (by show wi.heap.size ≤ B; omega) _
  · show wk.heap.size ≤ (w7.setCell ⟨B, 3, none⟩ v').heap.size
    simp [World.setCell]; omega
  · intro b hb hne
    rw [Below.heap_setCell _ _ _ _ (show b ≠ B from hne), hg.block b (by omega) (fun e => by have := (hrow b e.symm).1; omega), bi5.block b (by omega)]
    exact h.bk b hb hne
  · exact ((h.tb.below bi5).grown hg fun e => by have := (hrow _ e).1; omega).set3 _
  · refine own_keep ho fun g e => Below.heap_setCell _ _ _ _ ?_
    have := (own_blk ho e).2
    show g ≠ B; omega
  · rw [range_map_succ, ← hk]
    refine KK.set (p := ⟨B, 3, none⟩) (hp := .inl hv2) (u := v') (KK.add ?_ _ _ rfl ?_)
    · exact (h.kk.below bi5).grown hg (fun b e => .inr e) hG
    · refine (hrd.below h6).grown hg (fun b e => (hrow b e).2) fun b hb e => ?_
      rcases hG b hb e with e2 | e2
      · show b < wr.heap.size; omega
      · exact (hrow b e2).2

/-- The row of structs is read. -/
theorem InJ.read {D : Nat} {F : Nat → St D} {wi wk : World} {B j : Nat} {xs : List Value} {kv : Value} {wr : World} (h : InJ F wi wk B j xs kv wr) (hj : j ≤ 1000) :
    KW (fun b => b < wi.heap.size) wr fun W => RdF D W [.int .u64 0, .string ⟨#[]⟩, .slice none 0 0, kv] ⟨0#64, ⟨#[]⟩, [], (List.range j).map F⟩ := by
  obtain ⟨hv1, hv2⟩ := h.vr
  have h1 : KK (RdS D) (fun b => b < wi.heap.size) wr xs ((List.range j).map F) := h.kk.mono fun b _ e => .inl (by omega)
  have h2 := h1.kids h.own (by simp) fun g e => by have := (own_blk h.own e).2; show ¬ g < wi.heap.size; omega
  intro W hW
  exact RdN.mk' (t := ⟨0#64, ⟨#[]⟩, [], (List.range j).map F⟩) ⟨by show (⟨#[]⟩ : ByteArray).size ≤ 1000; decide, by simp, by simp; exact hj⟩ (Row.nil W 1) (by have := h2 W hW; simpa using this)

theorem OutJ.done {D : Nat} {F : Nat → Node (St D)} {w w2 : World} {R V N : Nat} {xs : List Value} {vk : Value} {wr w9 : World} (h : OutJ F w w2 R V N xs vk wr)
    (hn : N ≤ 1000) (hk : ∀ b, b ≠ R → w9.heap[b]? = wr.heap[b]?) (hs : w9.heap.size = wr.heap.size) :
    KW (fun b => b < w.heap.size) w9 (fun W => RdS (D + 1) W [.int .u64 0, .string ⟨#[]⟩, .slice none 0 0, vk] (⟨0#64, ⟨#[]⟩, [], (List.range N).map F⟩ : Node (Node (St D)))) := by
  obtain ⟨hv1, hv2, hv3⟩ := h.vr
  have hne : ∀ g, vk.ownBlock = some g → g ≠ R ∧ ¬ g < w2.heap.size := fun g e => by have := (own_blk h.own e).2; omega
  have ho : w9.ownsRow w2.heap.size 49 4 vk N xs := own_keep h.own fun g e => hk g (hne g e).1
  have h1 : KK (RdF D) (fun b => b < w2.heap.size) w9 xs ((List.range N).map F) := h.kk.step (by omega) fun b hb hg => ⟨fun e => hg (.inl e), hk b fun e => hg (.inl (by omega))⟩
  have h2 := h1.kids ho (by simp) fun g e => (hne g e).2
  intro W hW
  have h3 := h2 W fun b hb hg => hW b hb fun e => hg (by omega)
  exact RdN.mk' (t := (⟨0#64, ⟨#[]⟩, [], (List.range N).map F⟩ : Node (Node (St D)))) ⟨by show (⟨#[]⟩ : ByteArray).size ≤ 1000; decide, by simp, by simp; exact hn⟩ (Row.nil W 1) (by simpa using h3)
end SDecI

end Go.Proofs.YtogaclolodlnbaaDoor


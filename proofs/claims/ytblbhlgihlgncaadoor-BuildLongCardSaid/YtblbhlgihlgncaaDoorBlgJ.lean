/- What is kept while BuildLong's struct is made. No program in sight but its types. -/
import Derived.Test.YtblbhlgihlgncaaDoorBlgV
import Derived.Test.YtblbhlgihlgncaaDoorGq
set_option linter.unusedVariables false
set_option linter.unusedSimpArgs false
namespace Go.Proofs.YtblbhlgihlgncaaDoor
section SBlgJ
open Go.RowKit

theorem InJ.nextG {D : Nat} {F : Nat → St D} {wi wk : World} {B j : Nat} {xs : List Value} {kv : Value} {wr w5 w6 W : World} {k : St D} {x0 x1 x2 x3 : Value} {v' : Value}
    (h : InJ F wi wk B j xs kv wr) (hb5 : Below wr.heap.size wr w5) (hrd : KW (fun b => b < wr.heap.size) w5 fun W => RdS D W [x0, x1, x2, x3] k) (hk : k = F j)
    (h6 : Below w5.heap.size w5 w6) (hbW : Below wi.heap.size wi W) (hsW : w6.heap.size ≤ W.heap.size)
    (ho : W.ownsRow wk.heap.size 32 4 v' (j + 1) (xs ++ [x0, x1, x2, x3]))
    (hblk : ∀ b, b < w6.heap.size → b ≠ B → kv.ownBlock ≠ some b → W.heap[b]? = w6.heap[b]?)
    (htb : TB W B (.int .u64 0) (.string ⟨#[]⟩) (.slice none 0 0) v')
    (hat : v'.ownBlock = kv.ownBlock ∨ v'.ownBlock = some w6.heap.size) :
    InJ F wi wk B (j + 1) (xs ++ [x0, x1, x2, x3]) v' W := by
  obtain ⟨hv1, hv2⟩ := h.vr
  have bi5 := via hb5 h6
  have hrow : ∀ b, kv.ownBlock = some b → wk.heap.size ≤ b ∧ b < wr.heap.size := fun b e => ⟨(own_blk h.own e).2, (own_blk h.own e).1.lt⟩
  have hs5 : wr.heap.size ≤ w6.heap.size := bi5.size
  have hs56 := h6.size
  have hsr5 := hb5.size
  have hsz := h.sz
  have hv6 : ∀ i, v'.ownBlock = some i → i < w6.heap.size → kv.ownBlock = some i := fun i e hi => by
    rcases hat with e2 | e2
    · exact e2 ▸ e
    · rw [e2] at e; have := Option.some.inj e; omega
  refine ⟨hbW, by omega, ?_, htb, ho, ?_, h.vr⟩
  · intro b hb hne
    rw [hblk b (by omega) hne (fun e => by have := (hrow b e).1; omega), bi5.block b (by omega)]
    exact h.bk b hb hne
  · rw [range_map_succ, ← hk]
    refine KK.add ?_ _ _ rfl ?_
    · refine h.kk.step (by omega) fun i hi hg => ⟨fun e => ?_, ?_⟩
      · rcases e with e | e
        · exact hg (.inl e)
        · exact hg (.inr (hv6 i e (by omega)))
      · rw [hblk i (by omega) (fun e => hg (.inl (by omega))) (fun e => hg (.inr e)), bi5.block i hi]
    · refine hrd.step (by omega) fun i hi hg => ⟨fun e => ?_, ?_⟩
      · rcases e with e | e
        · exact hg (by show i < wr.heap.size; omega)
        · have := (hrow i (hv6 i e (by omega))).2
          exact hg this
      · have hi2 : ¬ i < wr.heap.size := hg
        rw [hblk i (by omega) (fun e => by omega) (fun e => by have := (hrow i e).2; omega), h6.block i hi]

theorem set4 {xs : List Value} {i : Nat} (h : xs.length = i * 4) (z0 z1 z2 z3 x0 x1 x2 x3 : Value) : ((((xs ++ [z0, z1, z2, z3]).set (i * 4) x0).set (i * 4 + 1) x1).set (i * 4 + 2) x2).set (i * 4 + 3) x3 = xs ++ [x0, x1, x2, x3] := by
  rw [← h, List.set_append_right _ _ (by omega), List.set_append_right _ _ (by omega), List.set_append_right _ _ (by omega), List.set_append_right _ _ (by omega)]
  simp
/-- A struct is appended as zeros, and put there. -/
theorem InJ.put4 {D : Nat} {F : Nat → St D} {w2 wk : World} {B i : Nat} {xs : List Value} {kv : Value} {wi wd wa w7 : World} {k : St D} {x0 x1 x2 x3 z0 z1 z2 z3 : Value} {g c : Nat}
    (h : InJ F w2 wk B i xs kv wi) (hb5 : Below wi.heap.size wi wd) (hrd : KW (fun b => b < wi.heap.size) wd fun W => RdS D W [x0, x1, x2, x3] k) (hk : k = F i) (h6 : Below wd.heap.size wd wa)
    (ho : w7.ownsRow wk.heap.size 32 4 (.slice (some ⟨g, 0, none⟩) (i + 1) c) (i + 1) (xs ++ [z0, z1, z2, z3])) (hg : wa.grownBy w7 kv.ownBlock)
    (hat : (Value.slice (some ⟨g, 0, none⟩) (i + 1) c).ownBlock = kv.ownBlock ∨ (Value.slice (some ⟨g, 0, none⟩) (i + 1) c).ownBlock = some wa.heap.size) :
    InJ F w2 wk B (i + 1) (xs ++ [x0, x1, x2, x3]) (.slice (some ⟨g, 0, none⟩) (i + 1) c) (((((w7.setCell ⟨B, 3, none⟩ (.slice (some ⟨g, 0, none⟩) (i + 1) c)).setCell ⟨g, i * 4, none⟩ x0).setCell ⟨g, i * 4 + 1, none⟩ x1).setCell ⟨g, i * 4 + 2, none⟩ x2).setCell ⟨g, i * 4 + 3, none⟩ x3) := by
  obtain ⟨hv1, hv2⟩ := h.vr
  have hgB := own_blk ho (g := g) rfl
  have hgk := hgB.2
  have hne : g ≠ B := by omega
  have hbia : Below wi.heap.size wi wa := via hb5 h6
  have hrow : ∀ b, kv.ownBlock = some b → wk.heap.size ≤ b ∧ b < wi.heap.size := fun b e => ⟨(own_blk h.own e).2, (own_blk h.own e).1.lt⟩
  have hwi := h.bl.size
  have hia := hbia.size
  have hg7 := hg.size
  have hsz := h.sz
  have hb7 : Below w2.heap.size w2 w7 := (h.bl.trans (hbia.mono hwi)).grown hg (by omega) fun b e => by have := (hrow b e).1; omega
  refine h.nextG (k := k) hb5 hrd hk h6 (w6 := wa) ?_ ?_ ?_ ?_ ?_ hat
  · exact ((((hb7.setCell (by show w2.heap.size ≤ B; omega) _).setCell (by show w2.heap.size ≤ g; omega) _).setCell (by show w2.heap.size ≤ g; omega) _).setCell (by show w2.heap.size ≤ g; omega) _).setCell (by show w2.heap.size ≤ g; omega) _
  · simpa [World.setCell] using hg7
  · have h0 : (w7.setCell ⟨B, 3, none⟩ (.slice (some ⟨g, 0, none⟩) (i + 1) c)).ownsRow wk.heap.size 32 4 (.slice (some ⟨g, 0, none⟩) (i + 1) c) (i + 1) (xs ++ [z0, z1, z2, z3]) := own_keep ho (fun g' e => Below.heap_setCell _ _ _ _ (by
      have e2 : g = g' := by simpa [Value.ownBlock] using e
      show g' ≠ B
      rw [← e2]; exact hne))
    have := own_setN (own_setN (own_setN (own_setN h0 (i * 4) x0) (i * 4 + 1) x1) (i * 4 + 2) x2) (i * 4 + 3) x3
    rw [set4 h.own.1] at this
    exact this
  · intro b hb hbB hbk
    have hbg : b ≠ g := fun e => by
      subst e
      rcases hat with e2 | e2
      · exact hbk e2.symm
      · have : b = wa.heap.size := by simpa [Value.ownBlock] using e2
        omega
    rw [Below.heap_setCell _ _ _ _ (show b ≠ g from hbg), Below.heap_setCell _ _ _ _ (show b ≠ g from hbg), Below.heap_setCell _ _ _ _ (show b ≠ g from hbg), Below.heap_setCell _ _ _ _ (show b ≠ g from hbg), Below.heap_setCell _ _ _ _ (show b ≠ B from hbB)]
    exact hg.block b hb (fun e => hbk e.symm)
  · have ht := (h.tb.below hbia).grown hg fun e => by have := (hrow _ e).1; omega
    exact ((((ht.set3 _).far hne _).far hne _).far hne _).far hne _

/-- The cells of a struct's three fields. -/
def c3L (ns : List Value) : List Value := [U 0#64, .string ⟨#[]⟩, ns.getD 0 (.slice none 0 0), .slice none 0 0, U 0#64, .string ⟨#[]⟩, ns.getD 1 (.slice none 0 0), .slice none 0 0, U 0#64, .string ⟨#[]⟩, ns.getD 2 (.slice none 0 0), .slice none 0 0]
theorem c3_set {ns : List Value} {r : Nat} (hl : ns.length = r) (hr : r < 3) (v : Value) : (c3L ns).set (r * 4 + 2) v = c3L (ns ++ [v]) := by
  match ns, r, hl with
  | [], 0, _ => rfl
  | [a], 1, _ => rfl
  | [a, b], 2, _ => rfl
  | [], r + 1, hl => simp at hl
  | [a], 0, hl => simp at hl
  | [a], r + 2, hl => simp at hl
  | [a, b], 0, hl => simp at hl
  | [a, b], 1, hl => simp at hl
  | [a, b], r + 3, hl => simp at hl
  | a :: b :: c :: l, r, hl => simp at hl; omega

/-- A struct so far: r of its three rows are made. -/
structure OneJ (n i : Nat) (wr : World) (O G : Nat) (r : Nat) (ns : List Value) (wj : World) : Prop where
  bl : Below wr.heap.size wr wj
  tb : TB wj O (.int .u64 0) (.string ⟨#[]⟩) (.slice none 0 0) (.slice (some ⟨G, 0, none⟩) 3 3)
  own : wj.ownsRow wr.heap.size 32 4 (.slice (some ⟨G, 0, none⟩) 3 3) 3 (c3L ns)
  len : ns.length = r
  vr : wr.heap.size ≤ O ∧ O ≠ G ∧ O < wj.heap.size ∧ wr.heap.size ≤ G ∧ G < wj.heap.size
  rows : ∀ q, q < r → KW (fun b => b < wr.heap.size ∨ b = O ∨ b = G) wj fun W => Row W 1 (ns.getD q (.slice none 0 0)) (aN n (3 * i + q)) ((List.replicate (aN n (3 * i + q)) 0#64).map U)

theorem OneJ.cell {n i : Nat} {wr : World} {O G r : Nat} {ns : List Value} {wj : World} (h : OneJ n i wr O G r ns wj) (hr : r < 3) : wj.cell? ⟨G, r * 4 + 2, none⟩ = some (.slice none 0 0) := by
  have := h.own.cellAt (r * 4 + 2) (by omega)
  rw [this]
  match ns, r, h.len with
  | [], 0, _ => rfl
  | [a], 1, _ => rfl
  | [a, b], 2, _ => rfl
  | [], r + 1, hl => simp at hl
  | [a], 0, hl => simp at hl
  | [a], r + 2, hl => simp at hl
  | [a, b], 0, hl => simp at hl
  | [a, b], 1, hl => simp at hl
  | [a, b], r + 3, hl => simp at hl
  | a :: b :: c :: l, r, hl => simp at hl; omega

theorem OneJ.next {n i : Nat} {wr : World} {O G r : Nat} {ns : List Value} {wj w4 w5 : World} {g c a : Nat} (h : OneJ n i wr O G r ns wj) (hr : r < 3) (hb4 : Below wj.heap.size wj w4) (ha : a = aN n (3 * i + r))
    (ho : w5.ownsRow w4.heap.size 28 1 (.slice (some ⟨g, 0, none⟩) a c) a ((List.replicate a 0#64).map U)) (hg : w4.grownBy w5 none) :
    OneJ n i wr O G (r + 1) (ns ++ [.slice (some ⟨g, 0, none⟩) a c]) (w5.setCell ⟨G, r * 4 + 2, none⟩ (.slice (some ⟨g, 0, none⟩) a c)) := by
  obtain ⟨v1, v2, v3, v4, v5⟩ := h.vr
  have hs4 := hb4.size
  have hs5 := hg.size
  have hgl := (own_blk ho (g := g) rfl)
  have hgw := hgl.2
  have hjr := h.bl.size
  have hb5 : Below wj.heap.size wj w5 := hb4.grown hg hs4 (fun b e => by cases e)
  have hsz : (w5.setCell ⟨G, r * 4 + 2, none⟩ (.slice (some ⟨g, 0, none⟩) a c)).heap.size = w5.heap.size := by simp [World.setCell]
  refine ⟨(h.bl.trans (hb5.mono hjr)).setCell (by show wr.heap.size ≤ G; omega) _, (h.tb.below hb5).far (fun e => v2 e.symm) _, ?_, by simp [h.len], ⟨v1, v2, by omega, v4, by omega⟩, fun q hq => ?_⟩
  · have := own_setN (own_beneath h.own hb5) (r * 4 + 2) (.slice (some ⟨g, 0, none⟩) a c)
    rw [c3_set h.len hr] at this
    exact this
  · have hl := h.len
    by_cases hqr : q < r
    · have e : (ns ++ [Value.slice (some ⟨g, 0, none⟩) a c]).getD q (.slice none 0 0) = ns.getD q (.slice none 0 0) := by
        rw [List.getD_eq_getElem?_getD, List.getElem?_append_left (by omega), ← List.getD_eq_getElem?_getD]
      rw [e]
      exact KW.set ((h.rows q hqr).below hb5) ⟨G, r * 4 + 2, none⟩ _ (.inr (.inr rfl))
    · obtain rfl : q = r := by omega
      have e : (ns ++ [Value.slice (some ⟨g, 0, none⟩) a c]).getD q (.slice none 0 0) = .slice (some ⟨g, 0, none⟩) a c := by
        rw [List.getD_eq_getElem?_getD, List.getElem?_append_right (by omega), hl, Nat.sub_self]; rfl
      rw [e, ← ha]
      refine KW.set (kw_own ho fun g' e' => ?_) ⟨G, q * 4 + 2, none⟩ _ (.inr (.inr rfl))
      have e2 : g = g' := by simpa [Value.ownBlock] using e'
      omega

theorem OneJ.read {n i : Nat} {wr : World} {O G : Nat} {ns : List Value} {wj : World} (h : OneJ n i wr O G 3 ns wj) :
    KW (fun b => b < wr.heap.size) wj fun W => RdS 1 W [U 0#64, .string ⟨#[]⟩, .slice none 0 0, .slice (some ⟨G, 0, none⟩) 3 3] (oneN3 n i) := by
  obtain ⟨v1, v2, v3, v4, v5⟩ := h.vr
  have hf : ∀ q, q < 3 → KW (fun b => b < wr.heap.size ∨ b = O ∨ b = G) wj fun W => RdF 0 W [U 0#64, .string ⟨#[]⟩, ns.getD q (.slice none 0 0), .slice none 0 0] (fldN n i q) := fun q hq W hW => by
    have h1 := h.rows q hq W hW
    refine RdN.mk' (t := fldN n i q) ⟨by show (⟨#[]⟩ : ByteArray).size ≤ 1000; decide, ?_, by simp [fldN]⟩ ?_ (Kids.nil _ W)
    · simp only [fldN, List.length_replicate]
      have := aN_le n (3 * i + q)
      omega
    · simp only [fldN, List.length_replicate]
      exact h1
  have hk : KK (RdF 0) (fun b => b < wr.heap.size ∨ b = O ∨ b = G) wj (c3L ns) ((List.range 3).map (fldN n i)) :=
    (((KK.nil (RdF 0) _ wj).add _ _ rfl (hf 0 (by omega))).add _ _ rfl (hf 1 (by omega))).add _ _ rfl (hf 2 (by omega))
  have hk2 := (hk.mono (G' := fun b => b < wr.heap.size) fun b _ e => .inl e).kids h.own (by simp) fun g e => by
    have e2 : G = g := by simpa [Value.ownBlock] using e
    omega
  intro W hW
  exact RdN.mk' (t := (oneN3 n i : Node (Node (St 0)))) ⟨by show (⟨#[]⟩ : ByteArray).size ≤ 1000; decide, by simp [oneN3], by simp [oneN3]⟩ (Row.nil W 1) (hk2 W hW)

/-- All structs are made: the whole is read. -/
theorem InJ.done {n k : Nat} {w2 wk : World} {B : Nat} {xs : List Value} {kv : Value} {wr : World} (h : InJ (oneN3 n) w2 wk B k xs kv wr) (hk : k ≤ 12) :
    RdS 2 wr [U 0#64, .string ⟨#[]⟩, .slice none 0 0, .slice (some ⟨B, 0, none⟩) 1 1] (lngV n k) := by
  have h1 := (h.read (by omega)).now
  have hrow : Row wr 4 (.slice (some ⟨B, 0, none⟩) 1 1) 1 [U 0#64, .string ⟨#[]⟩, .slice none 0 0, kv] := by
    refine ⟨rfl, by simp [maxLen], some ⟨B, 0, none⟩, 1, rfl, Nat.le_refl _, by simp [maxLen], (fun e => by cases e), fun _ => ⟨B, 0, rfl, h.tb.lt, fun j hj => ?_⟩⟩
    rw [Nat.zero_add]
    match j, hj with
    | 0, _ => exact h.tb.c0
    | 1, _ => exact h.tb.c1
    | 2, _ => exact h.tb.c2
    | 3, _ => exact h.tb.c3
    | j + 4, hj => omega
  refine RdN.mk' (t := (lngV n k : Node (Node (St 1)))) ⟨by show (⟨#[]⟩ : ByteArray).size ≤ 1000; decide, by simp [lngV], by simp [lngV]⟩ (Row.nil wr 1) ⟨_, hrow, fun i x hx => ?_⟩
  match i, hx with
  | 0, hx =>
    obtain rfl := Option.some.inj hx
    exact h1
  | i + 1, hx => simp [lngV] at hx
/-- A message's first word, as a number. -/
theorem ref_int {z : Nat} (hz : z ≤ 1000) (hlo : loV (refV (z : Int) 0) = (z : Int) % 4294967296) (hhi : hiV (refV (z : Int) 0) = 0 % 4294967296) : (refV (z : Int) 0).toInt = z := by
  generalize refV (z : Int) 0 = x at *
  unfold loV at hlo
  unfold hiV at hhi
  have : x.toNat = z := by omega
  rw [BitVec.toInt_eq_toNat_cond, this, if_pos (by omega)]
end SBlgJ

end Go.Proofs.YtblbhlgihlgncaaDoor


/- A slice of integers among the arguments, opened as a row. No program in sight. -/
import Derived.Test.YtmcpanjpjnlleaaDoorClose
import Derived.Test.YtmcpanjpjnlleaaDoorBase
import Derived.Lib.SmallJoins
set_option linter.unusedVariables false
namespace Go.Proofs.YtmcpanjpjnlleaaDoor
open Go.RowKit Go.ChangeShapes Go.WideShapes Go.ChangeAt Go.Deep

section
variable {H : Type} {enc : TypeId × Value → H} {P : Program} {w : World} {base : Nat} {spare : Nat → Bool} {held : Bool}

theorem spotless {w : World} {a : Addr} {v : Value} (h : w.cell? a = some v) : ∃ b off, a = ⟨b, off, none⟩ := by
  obtain ⟨b, off, spot⟩ := a
  cases spot with
  | none => exact ⟨b, off, rfl⟩
  | some s =>
    unfold World.cell? at h
    split at h
    · simp at h
    · cases h

theorem open_ints_row {r : Reach} {b0 : Nat} {t e : TypeId} {k : IntKind} {v : Value} {d : DataW H} {p : List MemPlace} (ht : P.underlying t = some (.slice e)) (he : P.underlying e = some (.int k)) (hce : P.cellsOf e = 1)
    (hv : Value.okWide P w r b0 t v) (h : DataW.Trod enc P w base spare held t v d p) :
    ∃ (n : Nat) (zs : List Int), Row w 1 v n (zs.map (Value.int k)) ∧ ∀ z ∈ zs, (Lit.int k z).wf = true := by
  obtain ⟨a0, len, cap, rfl⟩ := okWide_slice ht hv
  obtain ⟨fuel, hf⟩ := h
  rcases open_ints ht he hce hf with ⟨hcs, _⟩ | ⟨a, len', cap', zs, hcs, _, hlc, hm, hz, _, hcell, hwf⟩
  · have hcs' : [Value.slice a0 len cap] = [.slice none 0 0] := hcs
    simp only [List.cons.injEq, and_true] at hcs'
    rw [hcs']
    exact ⟨0, [], Row.nil w 1, fun z hz => by cases hz⟩
  · have hcs' : [Value.slice a0 len cap] = [.slice (some a) len' cap'] := hcs
    simp only [List.cons.injEq, and_true] at hcs'
    rw [hcs']
    have hle : len' ≤ zs.length := by rw [hz]; split <;> omega
    refine ⟨len', zs.take len', ⟨by rw [List.length_map, List.length_take]; omega, Nat.le_trans hlc hm, some a, cap', rfl, hlc, hm, (fun h => by cases h), fun h0 => ?_⟩, fun z hzm => hwf z (List.mem_of_mem_take hzm)⟩
    have h00 := hcell 0 (by omega)
    have hadd0 : a.add 0 = a := by simp [Addr.add]
    rw [hadd0] at h00
    obtain ⟨b, off, rfl⟩ := spotless h00
    refine ⟨b, off, rfl, World.block_lt_of_cell? w ⟨b, off, none⟩ (by rw [h00]), fun j hj => ?_⟩
    have := hcell j (by omega)
    rw [Addr.add_lit] at this
    rw [this, List.getElem?_map, List.getElem?_take, if_pos (by omega), List.getElem?_eq_getElem (by omega)]
    simp [List.getD, show j < zs.length by omega]

theorem open_u64s {r : Reach} {b0 : Nat} {t e : TypeId} {v : Value} {d : DataW H} {p : List MemPlace} (ht : P.underlying t = some (.slice e)) (he : P.underlying e = some (.int .u64)) (hce : P.cellsOf e = 1)
    (hv : Value.okWide P w r b0 t v) (h : DataW.Trod enc P w base spare held t v d p) : ∃ (n : Nat) (l : List (BitVec 64)), Row w 1 v n (l.map U) := by
  obtain ⟨n, zs, hr, hwf⟩ := open_ints_row ht he hce hv h
  refine ⟨n, zs.map (BitVec.ofInt 64), ?_⟩
  have : (zs.map (BitVec.ofInt 64)).map U = zs.map (Value.int .u64) := by
    rw [List.map_map]
    refine List.map_congr_left fun z hz => ?_
    have := u64_bd (hwf z hz)
    exact (U_of z this.1 this.2).symm
  rw [this]; exact hr

/-- A struct of one-cell fields, by value: its cells, and each field's reading. -/
theorem open_struct {r : Reach} {b0 : Nat} {t : TypeId} {fs : Array Field} {v : Value} {d : DataW H} {p : List MemPlace} (hs : P.underlying t = some (.struct fs)) (hone : oneCellFields P fs = true) (hC : P.cellsOf t = fs.size)
    (hv : Value.okWide P w r b0 t v) (h : DataW.Trod enc P w base spare held t v d p) :
    ∃ l : List Value, v = .agg l.toArray ∧ l.length = fs.size ∧ ∃ n, ∀ (j : Nat) (f : Field), fs[j]? = some f → ∃ y, DataW.trod enc P w base spare held n f.type [l.getD j undef] = some y := by
  obtain ⟨cs, rfl, hsz⟩ := okWide_struct hs hv
  obtain ⟨fuel, hf⟩ := h
  obtain ⟨xs, n, _, _, _, hlen, hg⟩ := DataW.trod_struct hs hf
  refine ⟨cs.toList, rfl, by rw [Array.length_toList, hsz, hC], n, fun j f hj => ?_⟩
  obtain ⟨ho, hk⟩ := Go.Deep.hone_of hone j f hj
  have hjl : j < fs.size := (Array.getElem?_eq_some_iff.1 hj).1
  have hc : j < cs.toList.length := by rw [Array.length_toList, hsz, hC]; exact hjl
  have h1 := hg j f hj
  rw [ho, hk] at h1
  have e : ((Value.agg cs).cells.toList.drop j).take 1 = [cs.toList.getD j undef] := by
    show (cs.toList.drop j).take 1 = _
    rw [List.drop_eq_getElem_cons hc]
    simp [List.getD, List.getElem?_eq_getElem hc]
  rw [e] at h1
  exact ⟨_, h1.trans (List.getElem?_eq_getElem (by omega))⟩

theorem list4 {α : Type} {l : List α} (h : l.length = 4) : ∃ a b c d, l = [a, b, c, d] := by
  match l, h with
  | [a, b, c, d], _ => exact ⟨a, b, c, d, rfl⟩
theorem list5 {α : Type} {l : List α} (h : l.length = 5) : ∃ a b c d e, l = [a, b, c, d, e] := by
  match l, h with
  | [a, b, c, d, e], _ => exact ⟨a, b, c, d, e, rfl⟩
end
end Go.Proofs.YtmcpanjpjnlleaaDoor


/- A slice of integers in a struct's field, opened as a row. No program in sight. -/
import Derived.Test.YtmcpanjpjnlleaaDoorOpen
set_option linter.unusedVariables false
namespace Go.Proofs.YtmcpanjpjnlleaaDoor
open Go.RowKit Go.ChangeShapes Go.WideShapes Go.ChangeAt Go.Deep

section
variable {H : Type} {enc : TypeId × Value → H} {P : Program} {w : World} {base : Nat} {spare : Nat → Bool} {held : Bool}

theorem open_ints_raw {fuel : Nat} {t e : TypeId} {k : IntKind} {v : Value} {x : DataW H × List MemPlace} (ht : P.underlying t = some (.slice e)) (he : P.underlying e = some (.int k)) (hce : P.cellsOf e = 1)
    (h : DataW.trod enc P w base spare held fuel t [v] = some x) :
    ∃ (n : Nat) (zs : List Int), Row w 1 v n (zs.map (Value.int k)) ∧ ∀ z ∈ zs, (Lit.int k z).wf = true := by
  rcases open_ints ht he hce h with ⟨hcs, _⟩ | ⟨a, len', cap', zs, hcs, _, hlc, hm, hz, _, hcell, hwf⟩
  · simp only [List.cons.injEq, and_true] at hcs
    rw [hcs]
    exact ⟨0, [], Row.nil w 1, fun z hz => by cases hz⟩
  · simp only [List.cons.injEq, and_true] at hcs
    rw [hcs]
    have hle : len' ≤ zs.length := by rw [hz]; split <;> omega
    refine ⟨len', zs.take len', ⟨by rw [List.length_map, List.length_take]; omega, Nat.le_trans hlc hm, some a, cap', rfl, hlc, hm, (fun h => by cases h), fun h0 => ?_⟩, fun z hzm => hwf z (List.mem_of_mem_take hzm)⟩
    have h00 := hcell 0 (by omega)
    have hadd0 : a.add 0 = a := by simp [Addr.add]
    rw [hadd0] at h00
    obtain ⟨b, off, rfl⟩ := spotless h00
    refine ⟨b, off, rfl, World.block_lt_of_cell? w ⟨b, off, none⟩ (by rw [h00]), fun j hj => ?_⟩
    have := hcell j (by omega)
    rw [Addr.add_lit] at this
    rw [this, List.getElem?_map, List.getElem?_take, if_pos (by omega), List.getElem?_eq_getElem (by omega)]
    simp [List.getD, show j < zs.length by omega]
end
end Go.Proofs.YtmcpanjpjnlleaaDoor


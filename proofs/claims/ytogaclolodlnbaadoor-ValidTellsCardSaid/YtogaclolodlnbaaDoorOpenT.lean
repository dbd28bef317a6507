/- An array of structs of scalars, by value, opened. No program in sight. -/
import Derived.Test.YtogaclolodlnbaaDoorOpenA
set_option linter.unusedVariables false
set_option linter.unusedSimpArgs false
namespace Go.Proofs.YtogaclolodlnbaaDoor
section SOpenT
open Go.RowKit Go.ChangeShapes Go.WideShapes Go.ChangeAt Go.Deep

section
variable {H : Type} {enc : TypeId × Value → H} {P : Program} {w : World} {base : Nat} {spare : Nat → Bool} {held : Bool}

theorem open_arr_struct {r : Reach} {b0 : Nat} {t e : TypeId} {n k : Nat} {fs : Array Field} {v : Value} {d : DataW H} {p : List MemPlace} (ht : P.underlying t = some (.array n e)) (hs : P.underlying e = some (.struct fs)) (hone : oneCellFields P fs = true)
    (hk : fs.size = k) (hce : P.cellsOf e = k) (hC : P.cellsOf t = n * k) (hv : Value.okWide P w r b0 t v) (h : DataW.Trod enc P w base spare held t v d p) :
    ∃ l : List Value, v = .agg l.toArray ∧ l.length = n * k ∧ ∀ (i : Nat), i < n → ∀ (j : Nat) (f : Field), fs[j]? = some f → ∃ m y, DataW.trod enc P w base spare held m f.type [l.getD (i * k + j) undef] = some y := by
  unfold Value.okWide at hv
  rw [ht] at hv
  obtain ⟨cs, rfl, hsz, _⟩ := hv
  obtain ⟨fuel, hf⟩ := h
  obtain ⟨xs, m, _, _, hl, hxs, hel⟩ := DataW.trod_array ht hf
  have hlen : cs.toList.length = n * k := by rw [Array.length_toList, hsz, hC]
  refine ⟨cs.toList, rfl, hlen, fun i hi j f hj => ?_⟩
  have h1 := hel i hi
  rw [List.getElem?_eq_getElem (by omega), hce] at h1
  obtain ⟨xs2, n2, _, _, _, hlen2, hg⟩ := DataW.trod_struct hs h1
  obtain ⟨ho, hk1⟩ := Go.Deep.hone_of hone j f hj
  have hjl : j < k := by rw [← hk]; exact (Array.getElem?_eq_some_iff.1 hj).1
  have h2 := hg j f hj
  rw [ho, hk1] at h2
  have hik : i * k + k ≤ n * k := by rw [← Nat.succ_mul]; exact Nat.mul_le_mul_right _ hi
  have hc : i * k + j < cs.toList.length := by omega
  have e : (((((Value.agg cs).cells.toList.drop (i * k)).take k).drop j).take 1) = [cs.toList.getD (i * k + j) undef] := by
    show (((cs.toList.drop (i * k)).take k).drop j).take 1 = _
    rw [List.drop_take, List.drop_drop, List.take_take, Nat.min_eq_left (by omega), List.drop_eq_getElem_cons hc]
    simp [List.getD, List.getElem?_eq_getElem hc]
  rw [e] at h2
  exact ⟨n2, _, h2.trans (List.getElem?_eq_getElem (by omega))⟩
theorem list12 {α : Type} {l : List α} (h : l.length = 3 * 4) : ∃ a0 a1 a2 a3 a4 a5 a6 a7 a8 a9 a10 a11, l = [a0, a1, a2, a3, a4, a5, a6, a7, a8, a9, a10, a11] := by
  match l, h with
  | [a0, a1, a2, a3, a4, a5, a6, a7, a8, a9, a10, a11], _ => exact ⟨a0, a1, a2, a3, a4, a5, a6, a7, a8, a9, a10, a11, rfl⟩
theorem list8 {α : Type} {l : List α} (h : l.length = 2 * 4) : ∃ a0 a1 a2 a3 a4 a5 a6 a7, l = [a0, a1, a2, a3, a4, a5, a6, a7] := by
  match l, h with
  | [a0, a1, a2, a3, a4, a5, a6, a7], _ => exact ⟨a0, a1, a2, a3, a4, a5, a6, a7, rfl⟩
end
end SOpenT

end Go.Proofs.YtogaclolodlnbaaDoor


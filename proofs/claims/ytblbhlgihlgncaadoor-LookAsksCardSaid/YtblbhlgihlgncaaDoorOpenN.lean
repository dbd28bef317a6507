/- A struct of two structs, by value, opened. No program in sight. -/
import Derived.Test.YtblbhlgihlgncaaDoorOpenA
set_option linter.unusedVariables false
set_option linter.unusedSimpArgs false
namespace Go.Proofs.YtblbhlgihlgncaaDoor
section SOpenN
open Go.RowKit Go.ChangeShapes Go.WideShapes Go.ChangeAt Go.Deep

section
variable {H : Type} {enc : TypeId × Value → H} {P : Program} {w : World} {base : Nat} {spare : Nat → Bool} {held : Bool}

theorem trod_flat {fuel : Nat} {t : TypeId} {fs : Array Field} {cs : List Value} {x : DataW H × List MemPlace} (hs : P.underlying t = some (.struct fs)) (hone : oneCellFields P fs = true) (hl : cs.length = fs.size)
    (h : DataW.trod enc P w base spare held fuel t cs = some x) : ∃ n, ∀ (j : Nat) (f : Field), fs[j]? = some f → ∃ y, DataW.trod enc P w base spare held n f.type [cs.getD j undef] = some y := by
  obtain ⟨xs, n, _, _, _, hlen, hg⟩ := DataW.trod_struct hs h
  refine ⟨n, fun j f hj => ?_⟩
  obtain ⟨ho, hk⟩ := Go.Deep.hone_of hone j f hj
  have hjl : j < fs.size := (Array.getElem?_eq_some_iff.1 hj).1
  have hc : j < cs.length := by omega
  have h1 := hg j f hj
  rw [ho, hk] at h1
  have e : (cs.drop j).take 1 = [cs.getD j undef] := by
    rw [List.drop_eq_getElem_cons hc, List.take_succ_cons, List.take_zero, List.getD_eq_getElem?_getD, List.getElem?_eq_getElem hc]
    rfl
  rw [e] at h1
  exact ⟨_, h1.trans (List.getElem?_eq_getElem (by omega))⟩

theorem open_nest {r : Reach} {b0 : Nat} {t : TypeId} {fs : Array Field} {v : Value} {d : DataW H} {p : List MemPlace} (f0 f1 : Field) (hs : P.underlying t = some (.struct fs)) (h0 : fs[0]? = some f0) (h1 : fs[1]? = some f1)
    (ho0 : f0.offset = 0) (ho1 : f1.offset = 3) (hc0 : P.cellsOf f0.type = 3) (hc1 : P.cellsOf f1.type = 4) (hC : P.cellsOf t = 7) (hv : Value.okWide P w r b0 t v) (h : DataW.Trod enc P w base spare held t v d p) :
    ∃ c0 c1 c2 c3 c4 c5 c6, v = .agg #[c0, c1, c2, c3, c4, c5, c6] ∧ ∃ n y0 y1, DataW.trod enc P w base spare held n f0.type [c0, c1, c2] = some y0 ∧ DataW.trod enc P w base spare held n f1.type [c3, c4, c5, c6] = some y1 := by
  obtain ⟨cs, rfl, hsz⟩ := okWide_struct hs hv
  obtain ⟨fuel, hf⟩ := h
  obtain ⟨xs, n, _, _, _, hlen, hg⟩ := DataW.trod_struct hs hf
  rw [hC] at hsz
  have g0 := hg 0 f0 h0
  have g1 := hg 1 f1 h1
  rw [ho0, hc0] at g0
  rw [ho1, hc1] at g1
  have hl : cs.toList.length = 7 := by rw [Array.length_toList]; exact hsz
  obtain ⟨c0, c1, c2, c3, c4, c5, c6, hcs⟩ : ∃ c0 c1 c2 c3 c4 c5 c6, cs.toList = [c0, c1, c2, c3, c4, c5, c6] := by
    match cs.toList, hl with
    | [c0, c1, c2, c3, c4, c5, c6], _ => exact ⟨_, _, _, _, _, _, _, rfl⟩
  have e : cs = #[c0, c1, c2, c3, c4, c5, c6] := by rw [← Array.toArray_toList (xs := cs), hcs]
  subst e
  have l0 : 0 < fs.size := (Array.getElem?_eq_some_iff.1 h0).1
  have l1 : 1 < fs.size := (Array.getElem?_eq_some_iff.1 h1).1
  exact ⟨c0, c1, c2, c3, c4, c5, c6, rfl, n, _, _, g0.trans (List.getElem?_eq_getElem (by omega)), g1.trans (List.getElem?_eq_getElem (by omega))⟩
end
end SOpenN

end Go.Proofs.YtblbhlgihlgncaaDoor


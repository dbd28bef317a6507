/- A schema among the arguments: a slice of slices of two ints, opened. -/
import Derived.Test.YtbhnbjaafejcjaaDoorOpen
import Derived.Test.YtbhnbjaafejcjaaDoorSch
import Derived.Deep.SlicePairs
set_option linter.unusedVariables false
namespace Go.Proofs.YtbhnbjaafejcjaaDoor
open Go.RowKit Go.ChangeShapes Go.WideShapes Go.ChangeAt Go.Deep

section
variable {H : Type} {enc : TypeId × Value → H} {P : Program} {w : World} {base : Nat} {spare : Nat → Bool} {held : Bool}

theorem fldsC_at (l : Fields) (j : Nat) (h : j < l.length * 2) : ∃ i p, l[i]? = some p ∧ ((j = i * 2 ∧ (fldsC l)[j]? = some (.int .i64 p.1)) ∨ (j = i * 2 + 1 ∧ (fldsC l)[j]? = some (.int .i64 p.2))) := by
  have hi : j / 2 < l.length := by omega
  obtain ⟨p, hp⟩ := get_lt hi
  obtain ⟨g1, g2⟩ := fldsC_get l (j / 2) p hp
  refine ⟨j / 2, p, hp, ?_⟩
  by_cases h0 : j % 2 = 0
  · left; refine ⟨by omega, ?_⟩
    rw [show j / 2 * 2 = j by omega] at g1; exact g1
  · right; refine ⟨by omega, ?_⟩
    rw [show j / 2 * 2 + 1 = j by omega] at g2; exact g2

theorem open_flds {t e ti : TypeId} {f0 f1 : Field} {n : Nat} {v : Value} {x : DataW H × List MemPlace} (ht : P.underlying t = some (.slice e)) (he : P.underlying e = some (.struct #[f0, f1]))
    (ce : P.cellsOf e = 2) (o0 : f0.offset = 0) (o1 : f1.offset = 1) (t0 : f0.type = ti) (t1 : f1.type = ti) (hi : P.underlying ti = some (.int .i64)) (ci : P.cellsOf ti = 1)
    (h : DataW.trod enc P w base spare held n t [v] = some x) : ∃ l : Fields, Flds w v l := by
  rcases open_slice_pairs ht he ce o0 o1 (by rw [t0]; exact ci) (by rw [t1]; exact ci) h with ⟨h0, _⟩ | ⟨a, len, cap, m, n', V0, V1, D0, D1, P0, P1, hcs, _, hl, hm, hmm, _, hc⟩
  · simp only [List.cons.injEq, and_true] at h0
    rw [h0]
    exact ⟨[], Row.nil w 2⟩
  · simp only [List.cons.injEq, and_true] at hcs
    rw [hcs]
    have hlm : len ≤ m := by rw [hmm]; split <;> omega
    obtain ⟨z, hz⟩ := choose_lt (α := Int × Int) (n := len) (p := fun i q => V0 i = .int .i64 q.1 ∧ V1 i = .int .i64 q.2) (fun i hi' => by
      obtain ⟨_, _, h3, h4⟩ := hc i (by omega)
      rw [t0] at h3
      rw [t1] at h4
      obtain ⟨z0, e0, _, _⟩ := DataW.trod_int hi h3
      obtain ⟨z1, e1, _, _⟩ := DataW.trod_int hi h4
      simp only [List.cons.injEq, and_true] at e0 e1
      exact ⟨(z0, z1), e0, e1⟩)
    refine ⟨(List.range len).map z, ?_⟩
    have hlen : ((List.range len).map z).length = len := by simp
    have hget : ∀ i p, ((List.range len).map z)[i]? = some p → i < len ∧ p = z i := fun i p hp => by
      have hi' : i < len := by have := (List.getElem?_eq_some_iff.1 hp).1; simpa using this
      rw [List.getElem?_map, List.getElem?_range hi'] at hp
      exact ⟨hi', (Option.some.inj hp).symm⟩
    unfold Flds
    rw [hlen]
    refine ⟨by rw [fldsC_length, hlen], Nat.le_trans hl hm, some a, cap, rfl, hl, hm, (fun h => by cases h), fun h0 => ?_⟩
    have h00 := (hc 0 (by omega)).1
    rw [Nat.zero_mul] at h00
    have hadd0 : a.add 0 = a := by simp [Addr.add]
    rw [hadd0] at h00
    obtain ⟨b, off, rfl⟩ := spotless h00
    refine ⟨b, off, rfl, World.block_lt_of_cell? w ⟨b, off, none⟩ (by rw [h00]), fun j hj => ?_⟩
    obtain ⟨i, p, hp, hj2⟩ := fldsC_at ((List.range len).map z) j (by rw [hlen]; exact hj)
    obtain ⟨hi', rfl⟩ := hget i p hp
    obtain ⟨g0, g1, _, _⟩ := hc i (by omega)
    rw [Addr.add_lit] at g0 g1
    rcases hj2 with ⟨rfl, e⟩ | ⟨rfl, e⟩
    · rw [g0, e, (hz i hi').1]
    · rw [g1, e, (hz i hi').2]

theorem open_schema {r : Reach} {b0 : Nat} {ts t e ti : TypeId} {f0 f1 : Field} {v : Value} {d : DataW H} {p : List MemPlace} (hts : P.underlying ts = some (.slice t)) (ht : P.underlying t = some (.slice e)) (he : P.underlying e = some (.struct #[f0, f1]))
    (ct : P.cellsOf t = 1) (ce : P.cellsOf e = 2) (o0 : f0.offset = 0) (o1 : f1.offset = 1) (t0 : f0.type = ti) (t1 : f1.type = ti) (hi : P.underlying ti = some (.int .i64)) (ci : P.cellsOf ti = 1)
    (hv : Value.okWide P w r b0 ts v) (h : DataW.Trod enc P w base spare held ts v d p) : ∃ s : Schema, Sch w v s := by
  obtain ⟨a0, len0, cap0, rfl⟩ := okWide_slice hts hv
  obtain ⟨fuel, hf⟩ := h
  rcases open_slice1 hts ct hf with ⟨hcs, _⟩ | ⟨a, len, cap, m, n', V, D, Pl, hcs, _, hl, hm, hmm, _, hc⟩
  · have hcs' : [Value.slice a0 len0 cap0] = [.slice none 0 0] := hcs
    simp only [List.cons.injEq, and_true] at hcs'
    rw [hcs']
    exact ⟨[], Sch.nil w⟩
  · have hcs' : [Value.slice a0 len0 cap0] = [.slice (some a) len cap] := hcs
    simp only [List.cons.injEq, and_true] at hcs'
    rw [hcs']
    have hlm : len ≤ m := by rw [hmm]; split <;> omega
    obtain ⟨L, hL⟩ := choose_lt (α := Fields) (n := len) (p := fun i l => Flds w (V i) l) (fun i hi' => open_flds ht he ce o0 o1 t0 t1 hi ci (hc i (by omega)).2)
    refine ⟨(List.range len).map L, (List.range len).map V, ?_, fun i l hl' => ?_⟩
    · refine ⟨by simp, by simp; exact Nat.le_trans hl hm, some a, cap, by simp, by simpa using hl, hm, (fun h => by cases h), fun h0 => ?_⟩
      simp only [List.length_map, List.length_range] at h0 ⊢
      have h00 := (hc 0 (by omega)).1
      have hadd0 : a.add 0 = a := by simp [Addr.add]
      rw [hadd0] at h00
      obtain ⟨b, off, rfl⟩ := spotless h00
      refine ⟨b, off, rfl, World.block_lt_of_cell? w ⟨b, off, none⟩ (by rw [h00]), fun j hj => ?_⟩
      have := (hc j (by omega)).1
      rw [Addr.add_lit] at this
      rw [this, List.getElem?_map, List.getElem?_range (by omega)]
      rfl
    · have hi' : i < len := by have := (List.getElem?_eq_some_iff.1 hl').1; simpa using this
      rw [List.getElem?_map, List.getElem?_range hi'] at hl'
      obtain rfl := Option.some.inj hl'
      exact ⟨V i, by rw [List.getElem?_map, List.getElem?_range hi']; rfl, hL i hi'⟩
end
end Go.Proofs.YtbhnbjaafejcjaaDoor


/- A slice of structs of a number and two truths among the arguments, opened. No program in sight. -/
import Derived.Test.YtppdbadigecegaaOpenA
import Derived.Test.YtppdbadigecegaaCBuilt
import Derived.Deep.SlicePairs
set_option linter.unusedVariables false
set_option linter.unusedSimpArgs false
namespace Go.Proofs.Ytppdbadigecegaa
section SOpenQ
open Go.RowKit Go.ChangeShapes Go.WideShapes Go.ChangeAt Go.Deep

section
variable {H : Type} {enc : TypeId × Value → H} {P : Program} {w : World} {base : Nat} {spare : Nat → Bool} {held : Bool}

theorem open_opsB {r : Reach} {b0 : Nat} {t e ti tb : TypeId} {f0 f1 f2 : Field} {v : Value} {d : DataW H} {p : List MemPlace} (ht : P.underlying t = some (.slice e)) (he : P.underlying e = some (.struct #[f0, f1, f2]))
    (ce : P.cellsOf e = 3) (o0 : f0.offset = 0) (o1 : f1.offset = 1) (o2 : f2.offset = 2) (t0 : f0.type = ti) (t1 : f1.type = tb) (t2 : f2.type = tb) (hi : P.underlying ti = some (.int .i64)) (hb : P.underlying tb = some .bool) (ci : P.cellsOf ti = 1) (cb : P.cellsOf tb = 1)
    (hv : Value.okWide P w r b0 t v) (h : DataW.Trod enc P w base spare held t v d p) : ∃ l : List (Int × Bool × Bool), Row w 3 v l.length (opsC l) ∧ ∀ q ∈ l, -9223372036854775808 ≤ q.1 ∧ q.1 ≤ 9223372036854775807 := by
  obtain ⟨a0, len, cap, rfl⟩ := okWide_slice ht hv
  obtain ⟨fuel, hf⟩ := h
  rcases open_slice ht hf with ⟨h0, _⟩ | ⟨a, len2, cap2, m, n, D, Pl, hcs, hba, hl, hm, hmm, -, hx⟩
  · have hcs' : [Value.slice a0 len cap] = [.slice none 0 0] := h0
    simp only [List.cons.injEq, and_true] at hcs'
    rw [hcs']
    exact ⟨[], Row.nil w 3, fun q hq => by cases hq⟩
  · have hcs' : [Value.slice a0 len cap] = [.slice (some a) len2 cap2] := hcs
    simp only [List.cons.injEq, and_true] at hcs'
    rw [hcs']
    have hlm : len2 ≤ m := by rw [hmm]; split <;> omega
    have each : ∀ i, i < len2 → ∃ q : Int × Bool × Bool, (-9223372036854775808 ≤ q.1 ∧ q.1 ≤ 9223372036854775807) ∧ w.cell? (a.add (i * 3)) = some (.int .i64 q.1) ∧ w.cell? (a.add (i * 3 + 1)) = some (.bool q.2.1) ∧ w.cell? (a.add (i * 3 + 2)) = some (.bool q.2.2) := by
      intro i hi'
      obtain ⟨cs', h1, h2⟩ := hx i (by omega)
      rw [ce] at h1
      obtain ⟨_, hlen, hcell⟩ := World.cells?_some h1
      obtain ⟨xs, k, hk, hxy, _, hxl, hf⟩ := DataW.trod_struct he h2
      match xs, hxl, cs', hlen with
      | [y0, y1, y2], _, [v0, v1, v2], _ =>
        have g0 := hf 0 f0 rfl
        have g1 := hf 1 f1 rfl
        have g2 := hf 2 f2 rfl
        rw [o0, t0, ci] at g0
        rw [o1, t1, cb] at g1
        rw [o2, t2, cb] at g2
        have e0 := hcell 0 (by omega)
        have e1 := hcell 1 (by omega)
        have e2 := hcell 2 (by omega)
        rw [add_add] at e0 e1 e2
        obtain ⟨z, k0, _, kw⟩ := DataW.trod_int hi g0
        obtain ⟨b1, k1, _⟩ := DataW.trod_bool hb g1
        obtain ⟨b2, k2, _⟩ := DataW.trod_bool hb g2
        have k0' : v0 = .int .i64 z := by simpa using k0
        have k1' : v1 = .bool b1 := by simpa using k1
        have k2' : v2 = .bool b2 := by simpa using k2
        exact ⟨(z, b1, b2), i64_bd kw, by rw [← k0']; simpa using e0, by rw [← k1']; simpa using e1, by rw [← k2']; simpa using e2⟩
    obtain ⟨q, hq⟩ := Go.Deep.choose_lt each
    refine ⟨(List.range len2).map q, ?_, fun z hz => by obtain ⟨i, hi, rfl⟩ := List.mem_map.1 hz; exact (hq i (List.mem_range.1 hi)).1⟩
    have hlen : ((List.range len2).map q).length = len2 := by simp
    rw [hlen]
    refine ⟨by rw [opsC_length, hlen], Nat.le_trans hl hm, some a, cap2, rfl, hl, hm, (fun h => by cases h), fun h0 => ?_⟩
    have h00 := (hq 0 h0).2.1
    rw [Nat.zero_mul] at h00
    have hadd0 : a.add 0 = a := by simp [Addr.add]
    rw [hadd0] at h00
    obtain ⟨b, off, rfl⟩ := spotless h00
    refine ⟨b, off, rfl, World.block_lt_of_cell? w ⟨b, off, none⟩ (by rw [h00]), fun j hj => ?_⟩
    have hi' : j / 3 < len2 := by omega
    have hget : ((List.range len2).map q)[j / 3]? = some (q (j / 3)) := by rw [List.getElem?_map, List.getElem?_range hi']; rfl
    obtain ⟨k0, k1, k2⟩ := opsC_at hget
    obtain ⟨-, g0, g1, g2⟩ := hq (j / 3) hi'
    rw [Addr.add_lit] at g0 g1 g2
    rcases (show j = j / 3 * 3 ∨ j = j / 3 * 3 + 1 ∨ j = j / 3 * 3 + 2 by omega) with e | e | e
    · rw [e, g0, k0]
    · rw [e, g1, k1]
    · rw [e, g2, k2]
end
end SOpenQ

end Go.Proofs.Ytppdbadigecegaa


/- What a law's row asks behind the call, out of 'it returned true, and what was there stays'. No program in sight. -/
import Derived.WalkKit
import Derived.ProofKit
import Derived.OpenShut
import Derived.ShutString
import Derived.OpenVars
import Derived.Deep.Slices
import Derived.Test.YtppdbadigecegaaGa
import Derived.Lib.SmallJoins
set_option linter.unusedVariables false
set_option linter.unusedSimpArgs false
namespace Go.Proofs.Ytppdbadigecegaa
section SOpenA
section SClose
open Go.RowKit Go.ChangeShapes Go.WideShapes Go.ChangeAt

section
variable {H : Type} {enc : TypeId × Value → H} {P : Program}

def typesRowed (P : Program) (ts : List TypeId) : Bool := ts.all fun t => P.readableRec t && decide (t < P.types.size)

theorem below_trodAll (hl : laidOutB P = true) {W W' : World} (hb : Below W.heap.size W W') :
    ∀ {ts : List TypeId} {vs : List Value} {ds : List (DataW H)} {ps : List MemPlace}, typesRowed P ts = true → (∀ x ∈ ps, x.block < W.heap.size) →
      DataW.TrodAll enc P W 0 (fun _ => true) true ts vs ds ps → DataW.TrodAll enc P W' 0 (fun b => decide (b < W.heap.size)) true ts vs ds ps
  | [], vs, ds, ps, _, _, h => by
    obtain ⟨rfl, rfl, rfl⟩ := trodAll_nil h
    rfl
  | t :: ts, vs, ds, ps, hr, hlt, h => by
    obtain ⟨v, vs', d, ds', p, q, rfl, rfl, rfl, h1, h2⟩ := trodAll_cons h
    simp only [typesRowed, List.all_cons, Bool.and_eq_true, decide_eq_true_eq] at hr
    exact ⟨p, q, Below.trod hl hr.1.1 hr.1.2 h1 hb (fun x hx => hlt x (by simp [hx])), below_trodAll hl hb (by simpa [typesRowed] using hr.2) (fun x hx => hlt x (by simp [hx])) h2, rfl⟩

theorem law_post {f : Func} {s : ChangeSpec} {W W' : World} {args : Array Value} {ds gs : List (DataW H)} {before : List MemPlace} {tb : TypeId}
    (hl : laidOutB P = true) (hr : typesRowed P f.params.toList = true) (hvr : varsRowed P s.vars = true) (hres : f.resultTypes = #[tb]) (htb : P.underlying tb = some .bool)
    (hW : DataW.Whole enc P f.params.toList s.vars false W args.toList ds gs before) (hfn : (s.fn H (ds ++ gs)).results = [.lit (.bool true)]) (hfa : (s.fn H (ds ++ gs)).args = ds) (hfv : (s.fn H (ds ++ gs)).vars = gs)
    (hB : Below W.heap.size W W') : s.post enc P f false true false false W args (.bool true) W' := by
  have hlt := hW.lt
  have hW' := hW
  obtain ⟨p, q, hA, hV, rfl, hfz, hnd⟩ := hW
  refine ⟨ds, gs, p ++ q, [], p, q, hW', ?_, ?_, ?_, hB.frame _, fun h => by cases h⟩
  · rw [hres, hfn]
    exact trodAll_cons_mk (shut_bool htb _) trodAll_mk0
  · rw [hfa]
    exact below_trodAll hl hB hr (fun x hx => hlt x (by simp [hx])) hA
  · rw [hfv]
    exact Below.trodVars hl hB hvr hV

variable {w : World} {base : Nat} {spare : Nat → Bool} {held : Bool}

/-- An array of integers, by value, opened. -/
theorem open_arr {r : Reach} {b0 : Nat} {t e : TypeId} {n : Nat} {k : IntKind} {v : Value} {d : DataW H} {p : List MemPlace} (ht : P.underlying t = some (.array n e)) (he : P.underlying e = some (.int k)) (hce : P.cellsOf e = 1) (hC : P.cellsOf t = n)
    (hv : Value.okWide P w r b0 t v) (h : DataW.Trod enc P w base spare held t v d p) :
    ∃ l : List Int, v = .agg (l.map (Value.int k)).toArray ∧ l.length = n ∧ ∀ a ∈ l, (Lit.int k a).wf = true := by
  unfold Value.okWide at hv
  rw [ht] at hv
  obtain ⟨cs, rfl, hsz, _⟩ := hv
  obtain ⟨fuel, hf⟩ := h
  obtain ⟨xs, m, _, _, hl, hxs, hel⟩ := DataW.trod_array ht hf
  rw [hce] at hel
  have hlen : cs.toList.length = n := by rw [Array.length_toList, hsz, hC]
  have key : ∀ i, i < n → ∃ a, cs.toList[i]? = some (.int k a) ∧ (Lit.int k a).wf = true := fun i hi => by
    have hi2 : i < xs.length := by omega
    have h1 := hel i hi
    rw [List.getElem?_eq_getElem hi2] at h1
    obtain ⟨a, ha, _, hw⟩ := DataW.trod_int he h1
    refine ⟨a, ?_, hw⟩
    have h2 : ((cs.toList.drop (i * 1)).take 1)[0]? = some (.int k a) := by
      have : ((Value.agg cs).cells.toList.drop (i * 1)).take 1 = [.int k a] := ha
      have e : (Value.agg cs).cells.toList = cs.toList := rfl
      rw [e] at this
      rw [this]; rfl
    simpa using h2
  obtain ⟨f, hf⟩ := Go.Deep.choose_lt key
  refine ⟨(List.range n).map f, ?_, by simp, ?_⟩
  · congr 1
    apply Array.ext'
    apply List.ext_getElem?
    intro i
    by_cases hi : i < n
    · rw [(hf i hi).1]; simp [hi]
    · rw [List.getElem?_eq_none (by omega)]; simp [hi]
  · intro a ha
    obtain ⟨i, hi, rfl⟩ := List.mem_map.1 ha
    exact (hf i (List.mem_range.1 hi)).2

theorem list2 {α : Type} {l : List α} (h : l.length = 2) : ∃ a b, l = [a, b] := by
  match l, h with
  | [a, b], _ => exact ⟨a, b, rfl⟩
theorem list3 {α : Type} {l : List α} (h : l.length = 3) : ∃ a b c, l = [a, b, c] := by
  match l, h with
  | [a, b, c], _ => exact ⟨a, b, c, rfl⟩

theorem i64_bd {a : Int} (h : (Lit.int .i64 a).wf = true) : -9223372036854775808 ≤ a ∧ a ≤ 9223372036854775807 := by have := bounds_i64 h; omega
theorem u64_bd {a : Int} (h : (Lit.int .u64 a).wf = true) : 0 ≤ a ∧ a < 18446744073709551616 := by have := bounds_u64 h; omega

end
end SClose

section SOpen
open Go.RowKit Go.ChangeShapes Go.WideShapes Go.ChangeAt Go.Deep

section
variable {H : Type} {enc : TypeId × Value → H} {P : Program} {w : World} {base : Nat} {spare : Nat → Bool} {held : Bool}

theorem spotless {w : World} {a : Addr} {v : Value} (h : w.cell? a = some v) : ∃ b off, a = ⟨b, off, none⟩ := by
  obtain ⟨b, off, spot⟩ := a
  cases spot with
  | none => exact ⟨b, off, rfl⟩
  | some s =>
    unfold World.cell? at h
    split at h
    · simp at h
    · cases h

theorem open_ints_row {r : Reach} {b0 : Nat} {t e : TypeId} {k : IntKind} {v : Value} {d : DataW H} {p : List MemPlace} (ht : P.underlying t = some (.slice e)) (he : P.underlying e = some (.int k)) (hce : P.cellsOf e = 1)
    (hv : Value.okWide P w r b0 t v) (h : DataW.Trod enc P w base spare held t v d p) :
    ∃ (n : Nat) (zs : List Int), Row w 1 v n (zs.map (Value.int k)) ∧ ∀ z ∈ zs, (Lit.int k z).wf = true := by
  obtain ⟨a0, len, cap, rfl⟩ := okWide_slice ht hv
  obtain ⟨fuel, hf⟩ := h
  rcases open_ints ht he hce hf with ⟨hcs, _⟩ | ⟨a, len', cap', zs, hcs, _, hlc, hm, hz, _, hcell, hwf⟩
  · have hcs' : [Value.slice a0 len cap] = [.slice none 0 0] := hcs
    simp only [List.cons.injEq, and_true] at hcs'
    rw [hcs']
    exact ⟨0, [], Row.nil w 1, fun z hz => by cases hz⟩
  · have hcs' : [Value.slice a0 len cap] = [.slice (some a) len' cap'] := hcs
    simp only [List.cons.injEq, and_true] at hcs'
    rw [hcs']
    have hle : len' ≤ zs.length := by rw [hz]; split <;> omega
    refine ⟨len', zs.take len', ⟨by rw [List.length_map, List.length_take]; omega, Nat.le_trans hlc hm, some a, cap', rfl, hlc, hm, (fun h => by cases h), fun h0 => ?_⟩, fun z hzm => hwf z (List.mem_of_mem_take hzm)⟩
    have h00 := hcell 0 (by omega)
    have hadd0 : a.add 0 = a := by simp [Addr.add]
    rw [hadd0] at h00
    obtain ⟨b, off, rfl⟩ := spotless h00
    refine ⟨b, off, rfl, World.block_lt_of_cell? w ⟨b, off, none⟩ (by rw [h00]), fun j hj => ?_⟩
    have := hcell j (by omega)
    rw [Addr.add_lit] at this
    rw [this, List.getElem?_map, List.getElem?_take, if_pos (by omega), List.getElem?_eq_getElem (by omega)]
    simp [List.getD, show j < zs.length by omega]

theorem open_u64s {r : Reach} {b0 : Nat} {t e : TypeId} {v : Value} {d : DataW H} {p : List MemPlace} (ht : P.underlying t = some (.slice e)) (he : P.underlying e = some (.int .u64)) (hce : P.cellsOf e = 1)
    (hv : Value.okWide P w r b0 t v) (h : DataW.Trod enc P w base spare held t v d p) : ∃ (n : Nat) (l : List (BitVec 64)), Row w 1 v n (l.map U) := by
  obtain ⟨n, zs, hr, hwf⟩ := open_ints_row ht he hce hv h
  refine ⟨n, zs.map (BitVec.ofInt 64), ?_⟩
  have : (zs.map (BitVec.ofInt 64)).map U = zs.map (Value.int .u64) := by
    rw [List.map_map]
    refine List.map_congr_left fun z hz => ?_
    have := u64_bd (hwf z hz)
    exact (U_of z this.1 this.2).symm
  rw [this]; exact hr

/-- A struct of one-cell fields, by value: its cells, and each field's reading. -/
theorem open_struct {r : Reach} {b0 : Nat} {t : TypeId} {fs : Array Field} {v : Value} {d : DataW H} {p : List MemPlace} (hs : P.underlying t = some (.struct fs)) (hone : oneCellFields P fs = true) (hC : P.cellsOf t = fs.size)
    (hv : Value.okWide P w r b0 t v) (h : DataW.Trod enc P w base spare held t v d p) :
    ∃ l : List Value, v = .agg l.toArray ∧ l.length = fs.size ∧ ∃ n, ∀ (j : Nat) (f : Field), fs[j]? = some f → ∃ y, DataW.trod enc P w base spare held n f.type [l.getD j undef] = some y := by
  obtain ⟨cs, rfl, hsz⟩ := okWide_struct hs hv
  obtain ⟨fuel, hf⟩ := h
  obtain ⟨xs, n, _, _, _, hlen, hg⟩ := DataW.trod_struct hs hf
  refine ⟨cs.toList, rfl, by rw [Array.length_toList, hsz, hC], n, fun j f hj => ?_⟩
  obtain ⟨ho, hk⟩ := Go.Deep.hone_of hone j f hj
  have hjl : j < fs.size := (Array.getElem?_eq_some_iff.1 hj).1
  have hc : j < cs.toList.length := by rw [Array.length_toList, hsz, hC]; exact hjl
  have h1 := hg j f hj
  rw [ho, hk] at h1
  have e : ((Value.agg cs).cells.toList.drop j).take 1 = [cs.toList.getD j undef] := by
    show (cs.toList.drop j).take 1 = _
    rw [List.drop_eq_getElem_cons hc]
    simp [List.getD, List.getElem?_eq_getElem hc]
  rw [e] at h1
  exact ⟨_, h1.trans (List.getElem?_eq_getElem (by omega))⟩

theorem list4 {α : Type} {l : List α} (h : l.length = 4) : ∃ a b c d, l = [a, b, c, d] := by
  match l, h with
  | [a, b, c, d], _ => exact ⟨a, b, c, d, rfl⟩
theorem list5 {α : Type} {l : List α} (h : l.length = 5) : ∃ a b c d e, l = [a, b, c, d, e] := by
  match l, h with
  | [a, b, c, d, e], _ => exact ⟨a, b, c, d, e, rfl⟩
end
end SOpen

section SOpenP
open Go.RowKit Go.ChangeShapes Go.WideShapes Go.ChangeAt Go.Deep

section
variable {H : Type} {enc : TypeId × Value → H} {P : Program} {w : World} {base : Nat} {spare : Nat → Bool} {held : Bool}

theorem open_ints_raw {fuel : Nat} {t e : TypeId} {k : IntKind} {v : Value} {x : DataW H × List MemPlace} (ht : P.underlying t = some (.slice e)) (he : P.underlying e = some (.int k)) (hce : P.cellsOf e = 1)
    (h : DataW.trod enc P w base spare held fuel t [v] = some x) :
    ∃ (n : Nat) (zs : List Int), Row w 1 v n (zs.map (Value.int k)) ∧ ∀ z ∈ zs, (Lit.int k z).wf = true := by
  rcases open_ints ht he hce h with ⟨hcs, _⟩ | ⟨a, len', cap', zs, hcs, _, hlc, hm, hz, _, hcell, hwf⟩
  · simp only [List.cons.injEq, and_true] at hcs
    rw [hcs]
    exact ⟨0, [], Row.nil w 1, fun z hz => by cases hz⟩
  · simp only [List.cons.injEq, and_true] at hcs
    rw [hcs]
    have hle : len' ≤ zs.length := by rw [hz]; split <;> omega
    refine ⟨len', zs.take len', ⟨by rw [List.length_map, List.length_take]; omega, Nat.le_trans hlc hm, some a, cap', rfl, hlc, hm, (fun h => by cases h), fun h0 => ?_⟩, fun z hzm => hwf z (List.mem_of_mem_take hzm)⟩
    have h00 := hcell 0 (by omega)
    have hadd0 : a.add 0 = a := by simp [Addr.add]
    rw [hadd0] at h00
    obtain ⟨b, off, rfl⟩ := spotless h00
    refine ⟨b, off, rfl, World.block_lt_of_cell? w ⟨b, off, none⟩ (by rw [h00]), fun j hj => ?_⟩
    have := hcell j (by omega)
    rw [Addr.add_lit] at this
    rw [this, List.getElem?_map, List.getElem?_take, if_pos (by omega), List.getElem?_eq_getElem (by omega)]
    simp [List.getD, show j < zs.length by omega]
end
end SOpenP
end SOpenA

end Go.Proofs.Ytppdbadigecegaa


/- slices.Equal, of rows of words. -/
import Derived.Test.YtblbhlgihlgncaaDoorProg
import Derived.Test.YtblbhlgihlgncaaDoorGa
import Derived.Deep.QuietTactic
import Derived.BigQuiet
import Derived.Test.YtblbhlgihlgncaaDoorGd
import Derived.Test.YtblbhlgihlgncaaDoorRows
import Derived.Deep.RegionHeld3
set_option linter.unusedVariables false
set_option linter.unusedSimpArgs false
namespace Go.Proofs.YtblbhlgihlgncaaDoor
section SEqual
open Go.RowKit

end SEqual

section STSame
open Go.RowKit

/-- Are two data the same? -/
noncomputable def eqB {α : Type} (a b : α) : Bool := @decide (a = b) (Classical.propDecidable _)
theorem eqB_yes {α : Type} {a b : α} (h : a = b) : eqB a b = true := by unfold eqB; exact @decide_eq_true _ (Classical.propDecidable _) h
theorem eqB_no {α : Type} {a b : α} (h : a ≠ b) : eqB a b = false := by unfold eqB; exact @decide_eq_false _ (Classical.propDecidable _) h
theorem eqB_iff {α : Type} {a b : α} : eqB a b = true ↔ a = b := by
  unfold eqB
  exact @decide_eq_true_iff _ (Classical.propDecidable _)

/-- Four cells, and how they look. -/
def FormC {K : Type} (R : World → List Value → K → Prop) : Prop := ∀ (w : World) (c : List Value) (k : K), R w c k → ∃ x b a2 m2 p2 a3 m3 p3, c = [U x, .string b, .slice a2 m2 p2, .slice a3 m3 p3]
theorem form_N {K : Type} (R : World → List Value → K → Prop) : FormC (RdN R) := fun w c k h => by
  obtain ⟨a2, p2, a3, p3, e, _⟩ := h.open
  exact ⟨_, _, _, _, _, _, _, _, e⟩
theorem form_S : ∀ d, FormC (RdS d)
  | 0 => fun _ _ _ h => h.elim
  | d + 1 => form_N (RdF d)

theorem Kids.look {K : Type} {R : World → List Value → K → Prop} (hF : FormC R) {w : World} {a : Option Addr} {n cap : Nat} {ks : List K} {i : Nat} {k : K} (h : Kids R w (.slice a n cap) ks) (hi : ks[i]? = some k) :
    ∃ b off x y a2 m2 p2 a3 m3 p3, a = some ⟨b, off, none⟩ ∧ b < w.heap.size ∧ w.cell? ⟨b, off + i * 4, none⟩ = some (U x) ∧ w.cell? ⟨b, off + i * 4 + 1, none⟩ = some (.string y) ∧
      w.cell? ⟨b, off + i * 4 + 2, none⟩ = some (.slice a2 m2 p2) ∧ w.cell? ⟨b, off + i * 4 + 3, none⟩ = some (.slice a3 m3 p3) ∧ R w [U x, .string y, .slice a2 m2 p2, .slice a3 m3 p3] k := by
  obtain ⟨b, off, h1, h2, c, h3, h4, h5⟩ := h.cells_ hi
  obtain ⟨x, y, a2, m2, p2, a3, m3, p3, rfl⟩ := hF _ _ _ h4
  exact ⟨b, off, x, y, a2, m2, p2, a3, m3, p3, h1, h2, h5 0 (by omega), h5 1 (by omega), h5 2 (by omega), h5 3 (by omega), h4⟩

theorem take_step {α : Type} {l m : List α} {j : Nat} {x y : α} (h : l.take j = m.take j) (hx : l[j]? = some x) (hy : m[j]? = some y) (e : x = y) : l.take (j + 1) = m.take (j + 1) := by
  rw [List.take_add_one, List.take_add_one, h, hx, hy, e]
theorem ne_at {α : Type} {l m : List α} {j : Nat} {x y : α} (hx : l[j]? = some x) (hy : m[j]? = some y) (e : x ≠ y) : l ≠ m := fun h => by
  subst h
  rw [hx] at hy
  exact e (Option.some.inj hy)

theorem bytes_inj {a b : ByteArray} (h : a.toList = b.toList) : a = b := by
  rw [ByteArray.toList_eq, ByteArray.toList_eq] at h
  cases a; cases b
  simp only [ByteArray.mk.injEq]
  exact Array.toList_inj.1 h

theorem node_ext {K : Type} {a b : Node K} : a = b ↔ a.num = b.num ∧ a.bytes = b.bytes ∧ a.nums = b.nums ∧ a.kids = b.kids := by
  cases a; cases b; simp

end STSame

section SRefSame
open Go.RowKit

set_option maxHeartbeats 400000 in
theorem same_any (xs ys : List (BitVec 64)) (u v : Value) (n m : Nat) (w : World) (hx : Row w 1 u n (xs.map U)) (hy : Row w 1 v m (ys.map U)) :
    Calls Tryd.prog 13 #[u, v] w fun e w' => e = .returned (.bool (xs == ys)) ∧ ∃ k, w' = w.drewN k := by
  have hxl : xs.length = n := by have := hx.len; simpa using this
  have hyl : ys.length = m := by have := hy.len; simpa using this
  obtain ⟨a, cap, rfl, hnc, hcm, hcell⟩ := hx.open
  obtain ⟨a2, cap2, rfl, hnc2, hcm2, hcell2⟩ := hy.open
  have hxm := hx.most
  have hym := hy.most
  unfold maxLen at hxm hym
  clear hx hy hnc hcm hnc2 hcm2
  by_cases hl : n = m
  · subst hl
    have Hxl := hid hxl
    have Hyl := hid hyl
    clear hxl hyl
    go_enter Tryd.func13, Tryd.ntmps13
    go_wp2_with fail
    go_loopw [5] (fun i wr => (∃ q, wr = w.drewN q) ∧ ∃ k : Nat, k ≤ n ∧ i = .int .i64 k ∧ xs.take k = ys.take k) (fun i _ => n - (intOf i).toNat)
    case atStart => exact ⟨⟨0, rfl⟩, 0, by omega, rfl, rfl⟩
    case round =>
      obtain ⟨⟨q, rfl⟩, k, hk, rfl, hkk⟩ := hrel
      have Hkk := hid hkk
      clear hkk
      by_cases hlt : k < n
      · obtain ⟨b, off, rfl, hbb, hc1⟩ := hcell (by omega)
        obtain ⟨b2, off2, rfl, hbb2, hc2⟩ := hcell2 (by omega)
        have hxk : xs[k]? = some (xs.getD k 0#64) := by
          rw [List.getD_eq_getElem?_getD, List.getElem?_eq_getElem (by rw [Hxl.out]; exact hlt)]; rfl
        have hyk : ys[k]? = some (ys.getD k 0#64) := by
          rw [List.getD_eq_getElem?_getD, List.getElem?_eq_getElem (by rw [Hyl.out]; exact hlt)]; rfl
        generalize xs.getD k 0#64 = x at *
        generalize ys.getD k 0#64 = y at *
        have c1 : w.cell? ⟨b, off + k, none⟩ = some (U x) := by rw [hc1 k (by omega), List.getElem?_map, hxk]; rfl
        have c2 : w.cell? ⟨b2, off2 + k, none⟩ = some (U y) := by rw [hc2 k (by omega), List.getElem?_map, hyk]; rfl
        have Hxk := hid hxk
        have Hyk := hid hyk
        clear hc1 hc2 hcell hcell2 hxk hyk
        by_cases hxy : x = y
        · subst hxy
          go_wp2_with fail
          go_quiet (fail)
          go_wp2
          go_roundw
          case rel => exact ⟨⟨_, rfl⟩, k + 1, by omega, by go_num, by rw [List.take_add_one, List.take_add_one, Hkk.out, Hxk.out, Hyk.out]⟩
          case measure => simp [intOf] <;> omega
        · have hne : (x != y) = true := by simpa using hxy
          have hno : Hid ((xs == ys) = false) := by
            show _ = _
            rw [beq_eq_false_iff_ne]
            intro h
            have h1 := Hxk.out
            rw [h, Hyk.out] at h1
            exact hxy (Option.some.inj h1).symm
          clear hxy
          go_wp2_with fail
          go_quiet (fail)
          go_wp2
          go_ret
          exact ⟨by rw [hno.out]; rfl, _, World.drewN_drewN _ _ _⟩
      · obtain rfl : k = n := by omega
        have hyes : Hid ((xs == ys) = true) := by
          show _ = _
          rw [beq_iff_eq]
          have := Hkk.out
          rwa [List.take_of_length_le (by rw [Hxl.out]; exact Nat.le_refl _), List.take_of_length_le (by rw [Hyl.out]; exact Nat.le_refl _)] at this
        clear hcell hcell2
        go_wp2
        go_ret
        exact ⟨by rw [hyes.out]; rfl, _, rfl⟩
  · have hne : ((n : Int) != (m : Int)) = true := by rw [bne_iff_ne]; omega
    have hno : Hid ((xs == ys) = false) := by
      show _ = _
      rw [beq_eq_false_iff_ne]
      intro h; subst h; omega
    clear hl hcell hcell2
    go_enter Tryd.func13, Tryd.ntmps13
    go_wp2
    go_ret
    exact ⟨by rw [hno.out]; rfl, 0, rfl⟩
end SRefSame

section SRSameT
open Go.RowKit

end SRSameT

end Go.Proofs.YtblbhlgihlgncaaDoor


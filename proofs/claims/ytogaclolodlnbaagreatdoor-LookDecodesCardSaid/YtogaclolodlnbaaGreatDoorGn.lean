/- slices.Equal, of rows of words. -/
import Derived.Test.YtogaclolodlnbaaGreatDoorProg
import Derived.Test.YtogaclolodlnbaaGreatDoorGa
import Derived.Deep.QuietTactic
import Derived.BigQuiet
import Derived.Test.YtogaclolodlnbaaGreatDoorGd
import Derived.Test.YtogaclolodlnbaaGreatDoorRows
import Derived.Deep.RegionHeld3
set_option linter.unusedVariables false
set_option linter.unusedSimpArgs false
namespace Go.Proofs.YtogaclolodlnbaaGreatDoor
section SEqual
open Go.RowKit

end SEqual

section STSame
open Go.RowKit

/-- Are two data the same? -/
noncomputable def eqB {α : Type} (a b : α) : Bool := @decide (a = b) (Classical.propDecidable _)
theorem eqB_yes {α : Type} {a b : α} (h : a = b) : eqB a b = true := by unfold eqB; exact @decide_eq_true _ (Classical.propDecidable _) h
theorem eqB_no {α : Type} {a b : α} (h : a ≠ b) : eqB a b = false := by unfold eqB; exact @decide_eq_false _ (Classical.propDecidable _) h
theorem eqB_iff {α : Type} {a b : α} : eqB a b = true ↔ a = b := by
  unfold eqB
  exact @decide_eq_true_iff _ (Classical.propDecidable _)

/-- Four cells, and how they look. -/
def FormC {K : Type} (R : World → List Value → K → Prop) : Prop := ∀ (w : World) (c : List Value) (k : K), R w c k → ∃ x b a2 m2 p2 a3 m3 p3, c = [U x, .string b, .slice a2 m2 p2, .slice a3 m3 p3]
theorem form_N {K : Type} (R : World → List Value → K → Prop) : FormC (RdN R) := fun w c k h => by
  obtain ⟨a2, p2, a3, p3, e, _⟩ := h.open
  exact ⟨_, _, _, _, _, _, _, _, e⟩
theorem form_S : ∀ d, FormC (RdS d)
  | 0 => fun _ _ _ h => h.elim
  | d + 1 => form_N (RdF d)

theorem Kids.look {K : Type} {R : World → List Value → K → Prop} (hF : FormC R) {w : World} {a : Option Addr} {n cap : Nat} {ks : List K} {i : Nat} {k : K} (h : Kids R w (.slice a n cap) ks) (hi : ks[i]? = some k) :
    ∃ b off x y a2 m2 p2 a3 m3 p3, a = some ⟨b, off, none⟩ ∧ b < w.heap.size ∧ w.cell? ⟨b, off + i * 4, none⟩ = some (U x) ∧ w.cell? ⟨b, off + i * 4 + 1, none⟩ = some (.string y) ∧
      w.cell? ⟨b, off + i * 4 + 2, none⟩ = some (.slice a2 m2 p2) ∧ w.cell? ⟨b, off + i * 4 + 3, none⟩ = some (.slice a3 m3 p3) ∧ R w [U x, .string y, .slice a2 m2 p2, .slice a3 m3 p3] k := by
  obtain ⟨b, off, h1, h2, c, h3, h4, h5⟩ := h.cells_ hi
  obtain ⟨x, y, a2, m2, p2, a3, m3, p3, rfl⟩ := hF _ _ _ h4
  exact ⟨b, off, x, y, a2, m2, p2, a3, m3, p3, h1, h2, h5 0 (by omega), h5 1 (by omega), h5 2 (by omega), h5 3 (by omega), h4⟩

theorem take_step {α : Type} {l m : List α} {j : Nat} {x y : α} (h : l.take j = m.take j) (hx : l[j]? = some x) (hy : m[j]? = some y) (e : x = y) : l.take (j + 1) = m.take (j + 1) := by
  rw [List.take_add_one, List.take_add_one, h, hx, hy, e]
theorem ne_at {α : Type} {l m : List α} {j : Nat} {x y : α} (hx : l[j]? = some x) (hy : m[j]? = some y) (e : x ≠ y) : l ≠ m := fun h => by
  subst h
  rw [hx] at hy
  exact e (Option.some.inj hy)

theorem bytes_inj {a b : ByteArray} (h : a.toList = b.toList) : a = b := by
  rw [ByteArray.toList_eq, ByteArray.toList_eq] at h
  cases a; cases b
  simp only [ByteArray.mk.injEq]
  exact Array.toList_inj.1 h

theorem node_ext {K : Type} {a b : Node K} : a = b ↔ a.num = b.num ∧ a.bytes = b.bytes ∧ a.nums = b.nums ∧ a.kids = b.kids := by
  cases a; cases b; simp

end STSame

section SRefSame
open Go.RowKit

set_option maxHeartbeats 400000 in
theorem same_any (xs ys : List (BitVec 64)) (u v : Value) (n m : Nat) (w : World) (hx : Row w 1 u n (xs.map U)) (hy : Row w 1 v m (ys.map U)) :
    Calls Tryz.prog 46 #[u, v] w fun e w' => e = .returned (.bool (xs == ys)) ∧ ∃ k, w' = w.drewN k := by
  have hxl : xs.length = n := by have := hx.len; simpa using this
  have hyl : ys.length = m := by have := hy.len; simpa using this
  obtain ⟨a, cap, rfl, hnc, hcm, hcell⟩ := hx.open
  obtain ⟨a2, cap2, rfl, hnc2, hcm2, hcell2⟩ := hy.open
  have hxm := hx.most
  have hym := hy.most
  unfold maxLen at hxm hym
  clear hx hy hnc hcm hnc2 hcm2
  by_cases hl : n = m
  · subst hl
    have Hxl := hid hxl
    have Hyl := hid hyl
    clear hxl hyl
    go_enter Tryz.func46, Tryz.ntmps46
    go_wp2_with fail
    go_loopw [5] (fun i wr => (∃ q, wr = w.drewN q) ∧ ∃ k : Nat, k ≤ n ∧ i = .int .i64 k ∧ xs.take k = ys.take k) (fun i _ => n - (intOf i).toNat)
    case atStart => exact ⟨⟨0, rfl⟩, 0, by omega, rfl, rfl⟩
    case round =>
      obtain ⟨⟨q, rfl⟩, k, hk, rfl, hkk⟩ := hrel
      have Hkk := hid hkk
      clear hkk
      by_cases hlt : k < n
      · obtain ⟨b, off, rfl, hbb, hc1⟩ := hcell (by omega)
        obtain ⟨b2, off2, rfl, hbb2, hc2⟩ := hcell2 (by omega)
        have hxk : xs[k]? = some (xs.getD k 0#64) := by
          rw [List.getD_eq_getElem?_getD, List.getElem?_eq_getElem (by rw [Hxl.out]; exact hlt)]; rfl
        have hyk : ys[k]? = some (ys.getD k 0#64) := by
          rw [List.getD_eq_getElem?_getD, List.getElem?_eq_getElem (by rw [Hyl.out]; exact hlt)]; rfl
        generalize xs.getD k 0#64 = x at *
        generalize ys.getD k 0#64 = y at *
        have c1 : w.cell? ⟨b, off + k, none⟩ = some (U x) := by rw [hc1 k (by omega), List.getElem?_map, hxk]; rfl
        have c2 : w.cell? ⟨b2, off2 + k, none⟩ = some (U y) := by rw [hc2 k (by omega), List.getElem?_map, hyk]; rfl
        have Hxk := hid hxk
        have Hyk := hid hyk
        clear hc1 hc2 hcell hcell2 hxk hyk
        by_cases hxy : x = y
        · subst hxy
          go_wp2_with fail
          go_quiet (fail)
          go_wp2
          go_roundw
          case rel => exact ⟨⟨_, rfl⟩, k + 1, by omega, by go_num, by rw [List.take_add_one, List.take_add_one, Hkk.out, Hxk.out, Hyk.out]⟩
          case measure => simp [intOf] <;> omega
        · have hne : (x != y) = true := by simpa using hxy
          have hno : Hid ((xs == ys) = false) := by
            show _ = _
            rw [beq_eq_false_iff_ne]
            intro h
            have h1 := Hxk.out
            rw [h, Hyk.out] at h1
            exact hxy (Option.some.inj h1).symm
          clear hxy
          go_wp2_with fail
          go_quiet (fail)
          go_wp2
          go_ret
          exact ⟨by rw [hno.out]; rfl, _, World.drewN_drewN _ _ _⟩
      · obtain rfl : k = n := by omega
        have hyes : Hid ((xs == ys) = true) := by
          show _ = _
          rw [beq_iff_eq]
          have := Hkk.out
          rwa [List.take_of_length_le (by rw [Hxl.out]; exact Nat.le_refl _), List.take_of_length_le (by rw [Hyl.out]; exact Nat.le_refl _)] at this
        clear hcell hcell2
        go_wp2
        go_ret
        exact ⟨by rw [hyes.out]; rfl, _, rfl⟩
  · have hne : ((n : Int) != (m : Int)) = true := by rw [bne_iff_ne]; omega
    have hno : Hid ((xs == ys) = false) := by
      show _ = _
      rw [beq_eq_false_iff_ne]
      intro h; subst h; omega
    clear hl hcell hcell2
    go_enter Tryz.func46, Tryz.ntmps46
    go_wp2
    go_ret
    exact ⟨by rw [hno.out]; rfl, 0, rfl⟩
end SRefSame

section SRSameT
open Go.RowKit

/-- The document's Same tells whether two data are the same. -/
def RSameC {K : Type} (R : World → List Value → K → Prop) : Prop := ∀ (a b : K) (c1 c2 : List Value) (w : World), R w c1 a → R w c2 b →
  Calls Tryz.prog 19 #[.agg c1.toArray, .agg c2.toArray] w fun r w' => r = .returned (.bool (eqB a b)) ∧ Below w.heap.size w w'

set_option maxRecDepth 100000 in
set_option maxHeartbeats 4000000 in
theorem rsame_step {K : Type} {R : World → List Value → K → Prop} (hR : Kept R) (hF : FormC R) (hS : RSameC R) : RSameC (RdN R) := by
  intro a b c1 c2 w ha hb
  obtain ⟨a2, p2, a3, p3, rfl, hbs, hna, hka, hnm, hkm⟩ := ha.open
  obtain ⟨b2, q2, b3, q3, rfl, hbs', hnb, hkb, hnm', hkm'⟩ := hb.open
  obtain ⟨N, hN⟩ : ∃ N, N = a.kids.length := ⟨_, rfl⟩
  obtain ⟨N', hN'⟩ : ∃ N, N = b.kids.length := ⟨_, rfl⟩
  obtain ⟨M, hM⟩ : ∃ N, N = a.nums.length := ⟨_, rfl⟩
  obtain ⟨M', hM'⟩ : ∃ N, N = b.nums.length := ⟨_, rfl⟩
  rw [← hN] at hka hkm ⊢
  rw [← hN'] at hkb hkm' ⊢
  rw [← hM] at hna hnm ⊢
  rw [← hM'] at hnb hnm' ⊢
  obtain ⟨w1, hw1, hb1, hlt1, hbox1⟩ := boxed w #[U a.num, .string a.bytes, .slice a2 M p2, .slice a3 N p3] 36
  obtain ⟨w2, hw2, hb2, hlt2, hbox2⟩ := boxed w1 #[U b.num, .string b.bytes, .slice b2 M' q2, .slice b3 N' q3] 36
  have hb12 := via hb1 hb2
  have Hcell := hid fun W (hW : Below w2.heap.size w2 W) => show (W.cell? ⟨w.heap.size, 0, none⟩ = some (U a.num) ∧ W.cell? ⟨w.heap.size, 1, none⟩ = some (.string a.bytes) ∧ W.cell? ⟨w.heap.size, 2, none⟩ = some (.slice a2 M p2) ∧ W.cell? ⟨w.heap.size, 3, none⟩ = some (.slice a3 N p3)) ∧
      (W.cell? ⟨w1.heap.size, 0, none⟩ = some (U b.num) ∧ W.cell? ⟨w1.heap.size, 1, none⟩ = some (.string b.bytes) ∧ W.cell? ⟨w1.heap.size, 2, none⟩ = some (.slice b2 M' q2) ∧ W.cell? ⟨w1.heap.size, 3, none⟩ = some (.slice b3 N' q3)) from
    ⟨⟨(hW.cell (p := ⟨w.heap.size, 0, none⟩) (Nat.lt_of_lt_of_le hlt1 hb2.size)).trans ((hb2.cell (p := ⟨w.heap.size, 0, none⟩) hlt1).trans (hbox1 0)), (hW.cell (p := ⟨w.heap.size, 1, none⟩) (Nat.lt_of_lt_of_le hlt1 hb2.size)).trans ((hb2.cell (p := ⟨w.heap.size, 1, none⟩) hlt1).trans (hbox1 1)),
      (hW.cell (p := ⟨w.heap.size, 2, none⟩) (Nat.lt_of_lt_of_le hlt1 hb2.size)).trans ((hb2.cell (p := ⟨w.heap.size, 2, none⟩) hlt1).trans (hbox1 2)), (hW.cell (p := ⟨w.heap.size, 3, none⟩) (Nat.lt_of_lt_of_le hlt1 hb2.size)).trans ((hb2.cell (p := ⟨w.heap.size, 3, none⟩) hlt1).trans (hbox1 3))⟩,
      (hW.cell (p := ⟨w1.heap.size, 0, none⟩) hlt2).trans (hbox2 0), (hW.cell (p := ⟨w1.heap.size, 1, none⟩) hlt2).trans (hbox2 1), (hW.cell (p := ⟨w1.heap.size, 2, none⟩) hlt2).trans (hbox2 2), (hW.cell (p := ⟨w1.heap.size, 3, none⟩) hlt2).trans (hbox2 3)⟩
  have HS := hid hS
  have Hka := hid fun W (hW : Below w2.heap.size w2 W) => (hka.below hR hb12 (Nat.le_refl _)).below hR hW (Nat.le_refl _)
  have Hkb := hid fun W (hW : Below w2.heap.size w2 W) => (hkb.below hR hb12 (Nat.le_refl _)).below hR hW (Nat.le_refl _)
  have HN := hid hN
  have HN' := hid hN'
  have Heq := hid fun W (hW : Below w2.heap.size w2 W) => same_any a.nums b.nums (.slice a2 M p2) (.slice b2 M' q2) M M' W ((hna.below hb12 (Nat.le_refl _)).below hW (Nat.le_refl _)) ((hnb.below hb12 (Nat.le_refl _)).below hW (Nat.le_refl _))
  obtain ⟨⟨u0, u1, u2, u3⟩, v0, v1, v2, v3⟩ := Hcell.out w2 (Below.refl _ _)
  have Hb12 := hid hb12
  clear hka hkb hna hnb hbox1 hbox2 hb1 hb2 ha hb hN hN' hM hM' hS hlt1 hlt2 hb12
  by_cases h1 : a.num = b.num
  · have g1 : (a.num != b.num) = false := by rw [h1]; simp
    by_cases h2 : a.bytes = b.bytes
    · have g2 : (a.bytes.toList == b.bytes.toList) = true := by rw [h2]; simp
      have g2' : (a.bytes.toList != b.bytes.toList) = false := by rw [h2]; simp
      by_cases h3 : a.nums = b.nums
      · have Hn := hid (show (a.nums == b.nums) = true by rw [h3]; simp)
        rw [Hn.out] at Heq
        by_cases h4 : N = N'
        · subst h4
          have H1 := hid h1
          have H2 := hid h2
          have H3 := hid h3
          have g4 : ((N : Int) != (N : Int)) = false := by simp
          clear h1 h2 h3
          go_enter Tryz.func19, Tryz.ntmps19
          go_wp2_with fail
          ((refine (Heq.out _ (Below.refl _ _)).mono ?_); rintro r3 w3 ⟨rfl, q, rfl⟩)
          clear hw1 hw2 u0 u1 u2 u3 v0 v1 v2 v3
          have hb3 : Below w2.heap.size w2 (w2.drewN q) := below_drewN _ _ _
          obtain ⟨⟨u0, u1, u2, u3⟩, v0, v1, v2, v3⟩ := Hcell.out _ hb3
          have hB4 := via Hb12.out hb3
          generalize w2.drewN q = w4 at *
          go_wp2_with fail
          obtain ⟨wo, rfl⟩ : ∃ wo : World, wo = w := ⟨_, rfl⟩
          obtain ⟨wp, rfl⟩ : ∃ wp : World, wp = w1 := ⟨_, rfl⟩
          clear u0 u1 u2 u3 v0 v1 v2 v3
          go_loopw [6] (fun iv wr => ∃ j : Nat, j ≤ N ∧ iv = .int .i64 j ∧ a.kids.take j = b.kids.take j ∧ Below w2.heap.size w2 wr) (fun iv _ => N - (intOf iv).toNat)
          case atStart => exact ⟨0, Nat.zero_le _, rfl, rfl, hb3⟩
          case round =>
            clear hB4 hb3
            obtain ⟨j, hjN, rfl, hjj, hbl⟩ := hrel
            have Hjj := hid hjj
            have hB := via Hb12.out hbl
            clear hjj
            obtain ⟨⟨-, -, -, u3⟩, -, -, -, v3⟩ := Hcell.out _ hbl
            by_cases hlt : j < N
            · obtain ⟨kx, hkx⟩ := get_lt (l := a.kids) (i := j) (by rw [← HN.out]; exact hlt)
              obtain ⟨ky, hky⟩ := get_lt (l := b.kids) (i := j) (by rw [← HN'.out]; exact hlt)
              obtain ⟨bx, ox, xn, xs, xa, xm, xp, xb, xk, xq, rfl, hbx, c0, c1, c2, c3, hrx⟩ := Kids.look hF (Hka.out _ hbl) hkx
              obtain ⟨by_, oy, yn, ys, ya, ym, yp, yb, yk, yq, rfl, hby, d0, d1, d2, d3, hry⟩ := Kids.look hF (Hkb.out _ hbl) hky
              have hcall := hid fun W (hW : Below wr.heap.size wr W) => HS.out kx ky _ _ W (hR _ _ _ _ _ hrx hW (Nat.le_refl _)) (hR _ _ _ _ _ hry hW (Nat.le_refl _))
              have Hcells := hid fun W (hW : Below wr.heap.size wr W) => show W.cell? ⟨wo.heap.size, 3, none⟩ = some (.slice (some ⟨bx, ox, none⟩) N p3) ∧ W.cell? ⟨wp.heap.size, 3, none⟩ = some (.slice (some ⟨by_, oy, none⟩) N q3) ∧ W.cell? ⟨bx, ox + j * 4, none⟩ = some (U xn) ∧ W.cell? ⟨bx, ox + j * 4 + 1, none⟩ = some (.string xs) ∧ W.cell? ⟨bx, ox + j * 4 + 2, none⟩ = some (.slice xa xm xp) ∧ W.cell? ⟨bx, ox + j * 4 + 3, none⟩ = some (.slice xb xk xq) ∧ W.cell? ⟨by_, oy + j * 4, none⟩ = some (U yn) ∧ W.cell? ⟨by_, oy + j * 4 + 1, none⟩ = some (.string ys) ∧ W.cell? ⟨by_, oy + j * 4 + 2, none⟩ = some (.slice ya ym yp) ∧ W.cell? ⟨by_, oy + j * 4 + 3, none⟩ = some (.slice yb yk yq) ∧ Below wr.heap.size wr W from
                ⟨below_cell hW u3, below_cell hW v3, below_cell hW c0, below_cell hW c1, below_cell hW c2, below_cell hW c3, below_cell hW d0, below_cell hW d1, below_cell hW d2, below_cell hW d3, hW⟩
              have Hkx := hid hkx
              have Hky := hid hky
              clear hrx hry hkx hky c0 c1 c2 c3 d0 d1 d2 d3
              go_wp2_with fail
              clear u3 v3
              refine wp_region_held_drew (S := (fun W => W.cell? ⟨wo.heap.size, 3, none⟩ = some (.slice (some ⟨bx, ox, none⟩) N p3) ∧ W.cell? ⟨wp.heap.size, 3, none⟩ = some (.slice (some ⟨by_, oy, none⟩) N q3) ∧ W.cell? ⟨bx, ox + j * 4, none⟩ = some (U xn) ∧ W.cell? ⟨bx, ox + j * 4 + 1, none⟩ = some (.string xs) ∧ W.cell? ⟨bx, ox + j * 4 + 2, none⟩ = some (.slice xa xm xp) ∧ W.cell? ⟨bx, ox + j * 4 + 3, none⟩ = some (.slice xb xk xq) ∧ W.cell? ⟨by_, oy + j * 4, none⟩ = some (U yn) ∧ W.cell? ⟨by_, oy + j * 4 + 1, none⟩ = some (.string ys) ∧ W.cell? ⟨by_, oy + j * 4 + 2, none⟩ = some (.slice ya ym yp) ∧ W.cell? ⟨by_, oy + j * 4 + 3, none⟩ = some (.slice yb yk yq) ∧ Below wr.heap.size wr W)) (by kernel_rfl) ?_ (fun hHeld => ?_)
              · exact Hcells.out _ (below_drewN _ _ 1)
              refine wpAnyH_take (i := 0) (oi := { dst := some 45, op := Op.fieldAddr 36 (Operand.tmp 2) 3, type := 0, pos := "ref.go:57", after := #[], guard := none }) (v := ?vs0) rfl (by kernel_rfl) (by kernel_rfl) (by kernel_rfl) (fun _ _ _ h => h) (Or.inl ⟨by rfl, ?hys0⟩) (by assumption) ?rests0
              case hys0 => first | (intro w hSw; (try dsimp only at hSw); go_simp; done) | (intro w hSw; (try dsimp only at hSw); go_simp; with_reducible rfl)
              try simp only [Act.put, List.setIfInBounds_toArray, List.set_cons_zero, List.set_cons_succ]
              refine wpAnyH_take (i := 1) (oi := { dst := some 46, op := Op.load 34 (Operand.tmp 45), type := 34, pos := "ref.go:57", after := #[{ on := 0, ground := Ground.data }], guard := none }) (v := ?vs1) rfl (by kernel_rfl) (by kernel_rfl) (by kernel_rfl) (fun _ _ _ h => h) (Or.inl ⟨by rfl, ?hys1⟩) (by assumption) ?rests1
              case hys1 => first | (intro w hSw; (try dsimp only at hSw); go_simp; done) | (intro w hSw; (try dsimp only at hSw); go_simp; with_reducible rfl)
              try simp only [Act.put, List.setIfInBounds_toArray, List.set_cons_zero, List.set_cons_succ]
              refine wpAnyH_take (i := 2) (oi := { dst := some 47, op := Op.move (Operand.tmp 6), type := 3, pos := "ref.go:57", after := #[], guard := none }) (v := ?vs2) rfl (by kernel_rfl) (by kernel_rfl) (by kernel_rfl) (fun _ _ _ h => h) (Or.inl ⟨by rfl, ?hys2⟩) (by assumption) ?rests2
              case hys2 => first | (intro w hSw; (try dsimp only at hSw); go_simp; done) | (intro w hSw; (try dsimp only at hSw); go_simp; with_reducible rfl)
              try simp only [Act.put, List.setIfInBounds_toArray, List.set_cons_zero, List.set_cons_succ]
              refine wpAnyH_take (i := 3) (oi := { dst := some 48, op := Op.indexAddr 34 (Operand.tmp 46) (Operand.tmp 47), type := 0, pos := "ref.go:57", after := #[{ on := 1, ground := Ground.data }, { on := 2, ground := Ground.data }], guard := none }) (v := ?vs3) rfl (by kernel_rfl) (by kernel_rfl) (by kernel_rfl) (fun _ _ _ h => h) (Or.inl ⟨by rfl, ?hys3⟩) (by assumption) ?rests3
              case hys3 => first | (intro w hSw; (try dsimp only at hSw); go_simp; done) | (intro w hSw; (try dsimp only at hSw); go_simp; with_reducible rfl)
              try simp only [Act.put, List.setIfInBounds_toArray, List.set_cons_zero, List.set_cons_succ]
              refine wpAnyH_take (i := 4) (oi := { dst := some 49, op := Op.load 36 (Operand.tmp 48), type := 36, pos := "ref.go:57", after := #[{ on := 3, ground := Ground.data }], guard := none }) (v := ?vs4) rfl (by kernel_rfl) (by kernel_rfl) (by kernel_rfl) (fun _ _ _ h => h) (Or.inl ⟨by rfl, ?hys4⟩) (by assumption) ?rests4
              case hys4 => first | (intro w hSw; (try dsimp only at hSw); go_simp; done) | (intro w hSw; (try dsimp only at hSw); go_simp; with_reducible rfl)
              try simp only [Act.put, List.setIfInBounds_toArray, List.set_cons_zero, List.set_cons_succ]
              refine wpAnyH_take (i := 5) (oi := { dst := some 50, op := Op.fieldAddr 36 (Operand.tmp 3) 3, type := 0, pos := "ref.go:57", after := #[], guard := none }) (v := ?vs5) rfl (by kernel_rfl) (by kernel_rfl) (by kernel_rfl) (fun _ _ _ h => h) (Or.inl ⟨by rfl, ?hys5⟩) (by assumption) ?rests5
              case hys5 => first | (intro w hSw; (try dsimp only at hSw); go_simp; done) | (intro w hSw; (try dsimp only at hSw); go_simp; with_reducible rfl)
              try simp only [Act.put, List.setIfInBounds_toArray, List.set_cons_zero, List.set_cons_succ]
              refine wpAnyH_take (i := 6) (oi := { dst := some 51, op := Op.load 34 (Operand.tmp 50), type := 34, pos := "ref.go:57", after := #[{ on := 5, ground := Ground.data }], guard := none }) (v := ?vs6) rfl (by kernel_rfl) (by kernel_rfl) (by kernel_rfl) (fun _ _ _ h => h) (Or.inl ⟨by rfl, ?hys6⟩) (by assumption) ?rests6
              case hys6 => first | (intro w hSw; (try dsimp only at hSw); go_simp; done) | (intro w hSw; (try dsimp only at hSw); go_simp; with_reducible rfl)
              try simp only [Act.put, List.setIfInBounds_toArray, List.set_cons_zero, List.set_cons_succ]
              refine wpAnyH_take (i := 7) (oi := { dst := some 52, op := Op.move (Operand.tmp 6), type := 3, pos := "ref.go:57", after := #[], guard := none }) (v := ?vs7) rfl (by kernel_rfl) (by kernel_rfl) (by kernel_rfl) (fun _ _ _ h => h) (Or.inl ⟨by rfl, ?hys7⟩) (by assumption) ?rests7
              case hys7 => first | (intro w hSw; (try dsimp only at hSw); go_simp; done) | (intro w hSw; (try dsimp only at hSw); go_simp; with_reducible rfl)
              try simp only [Act.put, List.setIfInBounds_toArray, List.set_cons_zero, List.set_cons_succ]
              refine wpAnyH_take (i := 8) (oi := { dst := some 53, op := Op.indexAddr 34 (Operand.tmp 51) (Operand.tmp 52), type := 0, pos := "ref.go:57", after := #[{ on := 6, ground := Ground.data }, { on := 7, ground := Ground.data }], guard := none }) (v := ?vs8) rfl (by kernel_rfl) (by kernel_rfl) (by kernel_rfl) (fun _ _ _ h => h) (Or.inl ⟨by rfl, ?hys8⟩) (by assumption) ?rests8
              case hys8 => first | (intro w hSw; (try dsimp only at hSw); go_simp; done) | (intro w hSw; (try dsimp only at hSw); go_simp; with_reducible rfl)
              try simp only [Act.put, List.setIfInBounds_toArray, List.set_cons_zero, List.set_cons_succ]
              refine wpAnyH_take (i := 9) (oi := { dst := some 54, op := Op.load 36 (Operand.tmp 53), type := 36, pos := "ref.go:57", after := #[{ on := 8, ground := Ground.data }], guard := none }) (v := ?vs9) rfl (by kernel_rfl) (by kernel_rfl) (by kernel_rfl) (fun _ _ _ h => h) (Or.inl ⟨by rfl, ?hys9⟩) (by assumption) ?rests9
              case hys9 => first | (intro w hSw; (try dsimp only at hSw); go_simp; done) | (intro w hSw; (try dsimp only at hSw); go_simp; with_reducible rfl)
              try simp only [Act.put, List.setIfInBounds_toArray, List.set_cons_zero, List.set_cons_succ]
              refine wpAnyH_ready (rs := [10]) (by kernel_rfl) (by simp) ?_
              refine AllReadyH.cons (o := { dst := some 55, op := Op.call { callee := Callee.value (Operand.func 19), args := #[Operand.tmp 49, Operand.tmp 54], argTypes := #[36, 36] }, type := 4, pos := "ref.go:57", after := #[{ on := 4, ground := Ground.data }, { on := 9, ground := Ground.data }], guard := none }) rfl (fun K hK => ?_) AllReadyH.nil
              go_simp
              ((refine (hcall.out _ (hHeld.2.2.2.2.2.2.2.2.2.2)).mono ?_); rintro r9 w9 ⟨rfl, hb9⟩)
              have hb10 := (hHeld.2.2.2.2.2.2.2.2.2.2).trans (hb9.mono (hHeld.2.2.2.2.2.2.2.2.2.2).size)
              refine hK.out _ _ ?_ (fun hHeld => ?_)
              · exact Hcells.out _ (hb10)
              clear hK K
              try simp only [Act.put, List.setIfInBounds_toArray, List.set_cons_zero, List.set_cons_succ]
              refine wpAnyH_take (i := 11) (oi := { dst := some 7, op := Op.assign (Operand.tmp 55), type := 4, pos := "ref.go:57", after := #[{ on := 10, ground := Ground.data }, { on := 10, ground := Ground.chain }, { on := 0, ground := Ground.phase }, { on := 1, ground := Ground.phase }, { on := 2, ground := Ground.phase }, { on := 3, ground := Ground.phase }, { on := 4, ground := Ground.phase }, { on := 5, ground := Ground.phase }, { on := 6, ground := Ground.phase }, { on := 7, ground := Ground.phase }, { on := 8, ground := Ground.phase }, { on := 9, ground := Ground.phase }, { on := 10, ground := Ground.phase }], guard := none }) (v := ?vs11) rfl (by kernel_rfl) (by kernel_rfl) (by kernel_rfl) (fun _ _ _ h => h) (Or.inl ⟨by rfl, ?hys11⟩) (by assumption) ?rests11
              case hys11 => first | (intro w hSw; (try dsimp only at hSw); go_simp; done) | (intro w hSw; (try dsimp only at hSw); go_simp; with_reducible rfl)
              try simp only [Act.put, List.setIfInBounds_toArray, List.set_cons_zero, List.set_cons_succ]
              refine wpAnyH_done (by kernel_rfl) ?_ _
              have hb11 := hbl.trans ((hHeld.2.2.2.2.2.2.2.2.2.2).mono hbl.size)
              by_cases he : kx = ky
              · have hyes := eqB_yes he
                rw [hyes]
                have Htk := hid (take_step Hjj.out Hkx.out Hky.out he)
                clear hHeld hcall Hcells hb9 hb10 he hyes
                go_wp2_with fail
                go_roundw
                case rel => exact ⟨j + 1, by omega, by go_num, Htk.out, hb11⟩
                case measure => simp [intOf]; omega
              · have hno := eqB_no he
                rw [hno]
                have Hval := hid (eqB_no (fun h => ne_at Hkx.out Hky.out he (node_ext.1 (show a = b from h)).2.2.2))
                have hB9 := via Hb12.out hb11
                clear hHeld hcall Hcells hb9 hb10 he hno
                go_wp2_with fail
                go_returns
                exact ⟨by rw [Hval.out]; rfl, hB9⟩
            · obtain rfl : j = N := by omega
              have Hval := hid (eqB_yes (node_ext.2 ⟨H1.out, H2.out, H3.out, by
                have := Hjj.out
                rwa [List.take_of_length_le (by rw [← HN.out]; exact Nat.le_refl _), List.take_of_length_le (by rw [← HN'.out]; exact Nat.le_refl _)] at this⟩))
              go_wp2_with fail
              go_returns
              exact ⟨by rw [Hval.out]; rfl, hB⟩
        · have g4 : ((N : Int) != (N' : Int)) = true := by rw [bne_iff_ne]; omega
          have Hval := hid (eqB_no (fun h => h4 (by rw [HN.out, HN'.out, (node_ext.1 (show a = b from h)).2.2.2])))
          clear h1 h2 h3 h4
          go_enter Tryz.func19, Tryz.ntmps19
          go_wp2_with fail
          ((refine (Heq.out _ (Below.refl _ _)).mono ?_); rintro r3 w3 ⟨rfl, q, rfl⟩)
          clear hw1 hw2 u0 u1 u2 u3 v0 v1 v2 v3
          have hb3 : Below w2.heap.size w2 (w2.drewN q) := below_drewN _ _ _
          obtain ⟨⟨u0, u1, u2, u3⟩, v0, v1, v2, v3⟩ := Hcell.out _ hb3
          have hB4 := via Hb12.out hb3
          go_wp2_with fail
          go_returns
          exact ⟨by rw [Hval.out]; rfl, hB4⟩
      · have Hn := hid (show (a.nums == b.nums) = false by rw [beq_eq_false_iff_ne]; exact h3)
        rw [Hn.out] at Heq
        have Hval := hid (eqB_no (fun h => h3 (node_ext.1 (show a = b from h)).2.2.1))
        clear h1 h2 h3
        go_enter Tryz.func19, Tryz.ntmps19
        go_wp2_with fail
        ((refine (Heq.out _ (Below.refl _ _)).mono ?_); rintro r3 w3 ⟨rfl, q, rfl⟩)
        clear hw1 hw2 u0 u1 u2 u3 v0 v1 v2 v3
        have hb3 : Below w2.heap.size w2 (w2.drewN q) := below_drewN _ _ _
        obtain ⟨⟨u0, u1, u2, u3⟩, v0, v1, v2, v3⟩ := Hcell.out _ hb3
        have hB4 := via Hb12.out hb3
        go_wp2_with fail
        go_returns
        exact ⟨by rw [Hval.out]; rfl, hB4⟩
    · have g2 : (a.bytes.toList == b.bytes.toList) = false := by rw [beq_eq_false_iff_ne]; exact fun h => h2 (bytes_inj h)
      have g2' : (a.bytes.toList != b.bytes.toList) = true := by rw [bne_iff_ne]; exact fun h => h2 (bytes_inj h)
      generalize (a.nums == b.nums) = rn at *
      have Hval := hid (eqB_no (fun h => h2 (node_ext.1 (show a = b from h)).2.1))
      clear h1 h2
      go_enter Tryz.func19, Tryz.ntmps19
      go_wp2_with fail
      ((refine (Heq.out _ (Below.refl _ _)).mono ?_); rintro r3 w3 ⟨rfl, q, rfl⟩)
      clear hw1 hw2 u0 u1 u2 u3 v0 v1 v2 v3
      have hb3 : Below w2.heap.size w2 (w2.drewN q) := below_drewN _ _ _
      obtain ⟨⟨u0, u1, u2, u3⟩, v0, v1, v2, v3⟩ := Hcell.out _ hb3
      have hB4 := via Hb12.out hb3
      go_wp2_with fail
      go_returns
      exact ⟨by rw [Hval.out]; rfl, hB4⟩
  · have g1 : (a.num != b.num) = true := by rw [bne_iff_ne]; exact h1
    generalize (a.nums == b.nums) = rn at *
    have Hval := hid (eqB_no (fun h => h1 (node_ext.1 (show a = b from h)).1))
    clear h1
    go_enter Tryz.func19, Tryz.ntmps19
    go_wp2_with fail
    ((refine (Heq.out _ (Below.refl _ _)).mono ?_); rintro r3 w3 ⟨rfl, q, rfl⟩)
    clear hw1 hw2 u0 u1 u2 u3 v0 v1 v2 v3
    have hb3 : Below w2.heap.size w2 (w2.drewN q) := below_drewN _ _ _
    obtain ⟨⟨u0, u1, u2, u3⟩, v0, v1, v2, v3⟩ := Hcell.out _ hb3
    have hB4 := via Hb12.out hb3
    go_wp2_with fail
    go_returns
    exact ⟨by rw [Hval.out]; rfl, hB4⟩

theorem rsame_S : ∀ d, RSameC (RdS d)
  | 0 => fun _ _ _ _ _ h => h.elim
  | d + 1 => rsame_step (kept_N (kept_S d)) (form_N (RdS d)) (rsame_step (kept_S d) (form_S d) (rsame_S d))
end SRSameT

end Go.Proofs.YtogaclolodlnbaaGreatDoor


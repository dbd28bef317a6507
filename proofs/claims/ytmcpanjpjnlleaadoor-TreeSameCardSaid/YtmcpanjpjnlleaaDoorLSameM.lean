/- intagliolaw06.spoilt, whatever the turn. -/
import Derived.Test.YtmcpanjpjnlleaaDoorSpoilA
import Derived.Test.YtmcpanjpjnlleaaDoorSpoilB
import Derived.Test.YtmcpanjpjnlleaaDoorSpoilC
import Derived.Test.YtmcpanjpjnlleaaDoorSpoilD
import Derived.Test.YtmcpanjpjnlleaaDoorEqual
import Derived.Test.YtmcpanjpjnlleaaDoorTrDeep2
import Derived.Test.YtmcpanjpjnlleaaDoorMadeT2
import Derived.Test.YtmcpanjpjnlleaaDoorAw6
import Derived.Deep.RegionHeld3
import Derived.Deep.CutBlock
import Derived.Deep.CutRange
import Derived.Deep.DeepCutAuto
set_option linter.unusedVariables false
set_option linter.unusedSimpArgs false
namespace Go.Proofs.YtmcpanjpjnlleaaDoor
section SSpoilt
open Go.RowKit

theorem spoilt_any (s : Schema) (hr : rightB s = true) (d : Nat) (t : Int) (X : St (d + 1)) (cs : List Value) (w0 w : World) (hB0 : Below w0.heap.size w0 w) (h : RdS (d + 1) w0 cs X) (hf : FitT s (d + 1) t X) (how at_ n : Int) (str : ByteArray)
    (hat : -9223372036854775808 ≤ at_ ∧ at_ ≤ 9223372036854775807) (down : Bool) :
    Calls Tryd.prog 11 #[.agg cs.toArray, turnV how at_ n str down] w (SpP d X w0 w) := by
  have flat : ∀ (d : Nat) (t : Int) (X : St (d + 1)) (cs : List Value) (w : World), Below w0.heap.size w0 w → RdS (d + 1) w0 cs X → FitT s (d + 1) t X →
      Calls Tryd.prog 11 #[.agg cs.toArray, turnV how at_ n str false] w (SpP d X w0 w) := fun d t X cs w hB h hf => by
    by_cases hst : (50 : Int) < (str.size : Int)
    · exact spoil_A s hr d t X cs w0 w hB h hf how at_ n str hst hat
    · exact spoil_B s hr d t X cs w0 w hB h hf how at_ n str (by omega) hat
  cases down with
  | false => exact flat d t X cs w hB0 h hf
  | true =>
    by_cases hst : (50 : Int) < (str.size : Int)
    · exact spoil_C s hr d t X cs w0 w hB0 h hf how at_ n str hst hat flat
    · exact spoil_D s hr d t X cs w0 w hB0 h hf how at_ n str (by omega) hat flat

/-- What was read is read in every later world. -/
theorem SpP.later {d : Nat} {X : St (d + 1)} {w0 w : World} {r : Ending} {w' : World} (h : SpP d X w0 w r w') (hB0 : Below w0.heap.size w0 w) :
    ∃ a2 p2 a3 p3 X', r = .returned (.agg #[U (Node.num X'), .string (Node.bytes X'), .slice a2 (Node.nums X').length p2, .slice a3 (Node.kids X').length p3]) ∧ (Node.bytes X' = Node.bytes X ∧ Node.nums X' = Node.nums X) ∧
      (∀ W, Below w'.heap.size w' W → RdS (d + 1) W [U (Node.num X'), .string (Node.bytes X'), .slice a2 (Node.nums X').length p2, .slice a3 (Node.kids X').length p3] X') ∧ Below w.heap.size w w' := by
  obtain ⟨y0, y1, y2, y3, X', rfl, hn, hr, hb⟩ := h
  have h1 := hr w' (hB0.trans (hb.mono hB0.size)) (fun _ _ _ => rfl)
  obtain ⟨a2, p2, a3, p3, e, _⟩ := RdN.open h1
  simp only [List.cons.injEq, and_true] at e
  obtain ⟨rfl, rfl, rfl, rfl⟩ := e
  exact ⟨a2, p2, a3, p3, X', rfl, hn, fun W hW => h1.below hW (Nat.le_refl _), hb⟩
end SSpoilt

section STSame
open Go.RowKit

/-- Are two data the same? -/
noncomputable def eqB {α : Type} (a b : α) : Bool := @decide (a = b) (Classical.propDecidable _)
theorem eqB_yes {α : Type} {a b : α} (h : a = b) : eqB a b = true := by unfold eqB; exact @decide_eq_true _ (Classical.propDecidable _) h
theorem eqB_no {α : Type} {a b : α} (h : a ≠ b) : eqB a b = false := by unfold eqB; exact @decide_eq_false _ (Classical.propDecidable _) h
theorem eqB_iff {α : Type} {a b : α} : eqB a b = true ↔ a = b := by
  unfold eqB
  exact @decide_eq_true_iff _ (Classical.propDecidable _)

/-- tree.Same tells whether two data are the same. -/
def SameC {K : Type} (R : World → List Value → K → Prop) : Prop := ∀ (a b : K) (c1 c2 : List Value) (w : World), R w c1 a → R w c2 b →
  Calls Tryd.prog 16 #[.agg c1.toArray, .agg c2.toArray] w fun r w' => r = .returned (.bool (eqB a b)) ∧ Below w.heap.size w w'
/-- Four cells, and how they look. -/
def FormC {K : Type} (R : World → List Value → K → Prop) : Prop := ∀ (w : World) (c : List Value) (k : K), R w c k → ∃ x b a2 m2 p2 a3 m3 p3, c = [U x, .string b, .slice a2 m2 p2, .slice a3 m3 p3]
theorem form_N {K : Type} (R : World → List Value → K → Prop) : FormC (RdN R) := fun w c k h => by
  obtain ⟨a2, p2, a3, p3, e, _⟩ := h.open
  exact ⟨_, _, _, _, _, _, _, _, e⟩
theorem form_S : ∀ d, FormC (RdS d)
  | 0 => fun _ _ _ h => h.elim
  | d + 1 => form_N (RdF d)

theorem Kids.look {K : Type} {R : World → List Value → K → Prop} (hF : FormC R) {w : World} {a : Option Addr} {n cap : Nat} {ks : List K} {i : Nat} {k : K} (h : Kids R w (.slice a n cap) ks) (hi : ks[i]? = some k) :
    ∃ b off x y a2 m2 p2 a3 m3 p3, a = some ⟨b, off, none⟩ ∧ b < w.heap.size ∧ w.cell? ⟨b, off + i * 4, none⟩ = some (U x) ∧ w.cell? ⟨b, off + i * 4 + 1, none⟩ = some (.string y) ∧
      w.cell? ⟨b, off + i * 4 + 2, none⟩ = some (.slice a2 m2 p2) ∧ w.cell? ⟨b, off + i * 4 + 3, none⟩ = some (.slice a3 m3 p3) ∧ R w [U x, .string y, .slice a2 m2 p2, .slice a3 m3 p3] k := by
  obtain ⟨b, off, h1, h2, c, h3, h4, h5⟩ := h.cells_ hi
  obtain ⟨x, y, a2, m2, p2, a3, m3, p3, rfl⟩ := hF _ _ _ h4
  exact ⟨b, off, x, y, a2, m2, p2, a3, m3, p3, h1, h2, h5 0 (by omega), h5 1 (by omega), h5 2 (by omega), h5 3 (by omega), h4⟩

theorem take_step {α : Type} {l m : List α} {j : Nat} {x y : α} (h : l.take j = m.take j) (hx : l[j]? = some x) (hy : m[j]? = some y) (e : x = y) : l.take (j + 1) = m.take (j + 1) := by
  rw [List.take_add_one, List.take_add_one, h, hx, hy, e]
theorem ne_at {α : Type} {l m : List α} {j : Nat} {x y : α} (hx : l[j]? = some x) (hy : m[j]? = some y) (e : x ≠ y) : l ≠ m := fun h => by
  subst h
  rw [hx] at hy
  exact e (Option.some.inj hy)

set_option maxRecDepth 100000 in
set_option maxHeartbeats 4000000 in
theorem eqfunc_any {K : Type} {R : World → List Value → K → Prop} (hR : Kept R) (hF : FormC R) (hS : SameC R) (l1 l2 : List K) (a1 a2 : Option Addr) (n1 n2 p1 p2 : Nat) (w : World) (e1 : n1 = l1.length) (e2 : n2 = l2.length) (hn1 : n1 ≤ 1000) (hn2 : n2 ≤ 1000)
    (h1 : Kids R w (.slice a1 n1 p1) l1) (h2 : Kids R w (.slice a2 n2 p2) l2) :
    Calls Tryd.prog 33 #[.slice a1 n1 p1, .slice a2 n2 p2, .func (.func 16) #[] #[]] w fun r w' => r = .returned (.bool (eqB l1 l2)) ∧ Below w.heap.size w w' := by
  have E1 := hid e1
  have E2 := hid e2
  have H1 := hid fun W (hW : Below w.heap.size w W) => h1.below hR hW (Nat.le_refl _)
  have H2 := hid fun W (hW : Below w.heap.size w W) => h2.below hR hW (Nat.le_refl _)
  have HS := hid hS
  by_cases hn : n1 = n2
  · subst hn
    clear h1 h2 e1 e2 hn2 hS
    have Hb0 := hid (Below.refl w.heap.size w)
    go_enter Tryd.func33, Tryd.ntmps33
    go_wp2_with fail
    go_loopw [17] (fun iv wr => ∃ j : Nat, j ≤ n1 ∧ iv = .int .i64 j ∧ l1.take j = l2.take j ∧ Below w.heap.size w wr) (fun iv _ => n1 - (intOf iv).toNat)
    case atStart => exact ⟨0, Nat.zero_le _, rfl, rfl, Hb0.out⟩
    case round =>
      obtain ⟨j, hj, rfl, hjj, hbl⟩ := hrel
      have Hjj := hid hjj
      clear hjj
      by_cases hlt : j < n1
      · obtain ⟨x, hx⟩ := get_lt (l := l1) (i := j) (by rw [← E1.out]; exact hlt)
        obtain ⟨y, hy⟩ := get_lt (l := l2) (i := j) (by rw [← E2.out]; exact hlt)
        obtain ⟨b, off, x0, x1, x2, x3, x4, x5, x6, x7, rfl, hbb, c0, c1, c2, c3, hrx⟩ := (H1.out _ hbl).look hF hx
        obtain ⟨b', off', y0, y1, y2, y3, y4, y5, y6, y7, rfl, hbb', d0, d1, d2, d3, hry⟩ := (H2.out _ hbl).look hF hy
        obtain ⟨wx, hwx, hbx, hltx, hboxx⟩ := boxed wr #[U x0, .string x1, .slice x2 x3 x4, .slice x5 x6 x7] 34
        have f0 : wx.cell? ⟨wr.heap.size, 0, none⟩ = some (U x0) := hboxx 0
        have f1 : wx.cell? ⟨wr.heap.size, 1, none⟩ = some (.string x1) := hboxx 1
        have f2 : wx.cell? ⟨wr.heap.size, 2, none⟩ = some (.slice x2 x3 x4) := hboxx 2
        have f3 : wx.cell? ⟨wr.heap.size, 3, none⟩ = some (.slice x5 x6 x7) := hboxx 3
        replace d0 := (hbx.cell hbb').trans d0
        replace d1 := (hbx.cell hbb').trans d1
        replace d2 := (hbx.cell hbb').trans d2
        replace d3 := (hbx.cell hbb').trans d3
        obtain ⟨wy, hwy, hby, hlty, hboxy⟩ := boxed wx #[U y0, .string y1, .slice y2 y3 y4, .slice y5 y6 y7] 34
        have g0 : wy.cell? ⟨wx.heap.size, 0, none⟩ = some (U y0) := hboxy 0
        have g1 : wy.cell? ⟨wx.heap.size, 1, none⟩ = some (.string y1) := hboxy 1
        have g2 : wy.cell? ⟨wx.heap.size, 2, none⟩ = some (.slice y2 y3 y4) := hboxy 2
        have g3 : wy.cell? ⟨wx.heap.size, 3, none⟩ = some (.slice y5 y6 y7) := hboxy 3
        have k0 := (hby.cell (p := ⟨wr.heap.size, 0, none⟩) hltx).trans f0
        have k1 := (hby.cell (p := ⟨wr.heap.size, 1, none⟩) hltx).trans f1
        have k2 := (hby.cell (p := ⟨wr.heap.size, 2, none⟩) hltx).trans f2
        have k3 := (hby.cell (p := ⟨wr.heap.size, 3, none⟩) hltx).trans f3
        have hbxy := hbl.trans ((hbx.trans (hby.mono hbx.size)).mono hbl.size)
        have hcall := HS.out x y _ _ wy (hR _ _ _ _ _ hrx (hbx.trans (hby.mono hbx.size)) (Nat.le_refl _)) (hR _ _ _ _ _ hry (hbx.trans (hby.mono hbx.size)) (Nat.le_refl _))
        have Hx := hid hx
        have Hy := hid hy
        clear hx hy hrx hry hboxx hboxy f0 f1 f2 f3 hbx hby
        by_cases hxy : x = y
        · rw [eqB_yes hxy] at hcall
          have Hxy := hid hxy
          clear hxy
          go_wp2_with fail
          clear hwx hwy c0 c1 c2 c3 d0 d1 d2 d3 k0 k1 k2 k3 g0 g1 g2 g3
          ((refine hcall.mono ?_); rintro r4 w4 ⟨rfl, hb4⟩)
          have hB4 := hbxy.trans (hb4.mono hbxy.size)
          clear hcall hb4
          go_wp2_with fail
          go_roundw
          case rel => exact ⟨j + 1, by omega, by go_num, take_step Hjj.out Hx.out Hy.out Hxy.out, hB4⟩
          case measure => simp [intOf] <;> omega
        · rw [eqB_no hxy] at hcall
          have Hno := hid (eqB_no (ne_at Hx.out Hy.out hxy))
          clear hxy
          go_wp2_with fail
          clear hwx hwy c0 c1 c2 c3 d0 d1 d2 d3 k0 k1 k2 k3 g0 g1 g2 g3
          ((refine hcall.mono ?_); rintro r4 w4 ⟨rfl, hb4⟩)
          have hB4 := hbxy.trans (hb4.mono hbxy.size)
          clear hcall hb4
          go_wp2_with fail
          go_returns
          exact ⟨by rw [Hno.out]; rfl, hB4⟩
      · obtain rfl : j = n1 := by omega
        have Hyes := hid (eqB_yes (show l1 = l2 by
          have := Hjj.out
          rwa [List.take_of_length_le (by rw [← E1.out]; exact Nat.le_refl _), List.take_of_length_le (by rw [← E2.out]; exact Nat.le_refl _)] at this))
        go_wp2_with fail
        go_returns
        exact ⟨by rw [Hyes.out]; rfl, hbl⟩
  · have hne : ((n1 : Int) != (n2 : Int)) = true := by rw [bne_iff_ne]; omega
    have Hno := hid (eqB_no (show l1 ≠ l2 from fun h => hn (by rw [E1.out, E2.out, h])))
    clear hn h1 h2 e1 e2 hS
    have Hb0 := hid (Below.refl w.heap.size w)
    go_enter Tryd.func33, Tryd.ntmps33
    go_wp2_with fail
    go_returns
    exact ⟨by rw [Hno.out]; rfl, Hb0.out⟩

theorem bytes_inj {a b : ByteArray} (h : a.toList = b.toList) : a = b := by
  rw [ByteArray.toList_eq, ByteArray.toList_eq] at h
  cases a; cases b
  simp only [ByteArray.mk.injEq]
  exact Array.toList_inj.1 h

theorem node_ext {K : Type} {a b : Node K} : a = b ↔ a.num = b.num ∧ a.bytes = b.bytes ∧ a.nums = b.nums ∧ a.kids = b.kids := by
  cases a; cases b; simp

set_option maxRecDepth 100000 in
set_option maxHeartbeats 4000000 in
theorem same_step {K : Type} {R : World → List Value → K → Prop} (hR : Kept R) (hF : FormC R) (hS : SameC R) : SameC (RdN R) := by
  intro a b c1 c2 w ha hb
  obtain ⟨a2, p2, a3, p3, rfl, hbs, hna, hka, hnm, hkm⟩ := ha.open
  obtain ⟨b2, q2, b3, q3, rfl, hbs', hnb, hkb, hnm', hkm'⟩ := hb.open
  obtain ⟨N, hN⟩ : ∃ N, N = a.kids.length := ⟨_, rfl⟩
  obtain ⟨N', hN'⟩ : ∃ N, N = b.kids.length := ⟨_, rfl⟩
  obtain ⟨M, hM⟩ : ∃ N, N = a.nums.length := ⟨_, rfl⟩
  obtain ⟨M', hM'⟩ : ∃ N, N = b.nums.length := ⟨_, rfl⟩
  rw [← hN] at hka hkm ⊢
  rw [← hN'] at hkb hkm' ⊢
  rw [← hM] at hna hnm ⊢
  rw [← hM'] at hnb hnm' ⊢
  obtain ⟨w1, hw1, hb1, hlt1, hbox1⟩ := boxed w #[U a.num, .string a.bytes, .slice a2 M p2, .slice a3 N p3] 34
  obtain ⟨w2, hw2, hb2, hlt2, hbox2⟩ := boxed w1 #[U b.num, .string b.bytes, .slice b2 M' q2, .slice b3 N' q3] 34
  have hb12 := via hb1 hb2
  have Hcell := hid fun W (hW : Below w2.heap.size w2 W) => show (W.cell? ⟨w.heap.size, 0, none⟩ = some (U a.num) ∧ W.cell? ⟨w.heap.size, 1, none⟩ = some (.string a.bytes) ∧ W.cell? ⟨w.heap.size, 2, none⟩ = some (.slice a2 M p2) ∧ W.cell? ⟨w.heap.size, 3, none⟩ = some (.slice a3 N p3)) ∧
      (W.cell? ⟨w1.heap.size, 0, none⟩ = some (U b.num) ∧ W.cell? ⟨w1.heap.size, 1, none⟩ = some (.string b.bytes) ∧ W.cell? ⟨w1.heap.size, 2, none⟩ = some (.slice b2 M' q2) ∧ W.cell? ⟨w1.heap.size, 3, none⟩ = some (.slice b3 N' q3)) from
    ⟨⟨(hW.cell (p := ⟨w.heap.size, 0, none⟩) (Nat.lt_of_lt_of_le hlt1 hb2.size)).trans ((hb2.cell (p := ⟨w.heap.size, 0, none⟩) hlt1).trans (hbox1 0)), (hW.cell (p := ⟨w.heap.size, 1, none⟩) (Nat.lt_of_lt_of_le hlt1 hb2.size)).trans ((hb2.cell (p := ⟨w.heap.size, 1, none⟩) hlt1).trans (hbox1 1)),
      (hW.cell (p := ⟨w.heap.size, 2, none⟩) (Nat.lt_of_lt_of_le hlt1 hb2.size)).trans ((hb2.cell (p := ⟨w.heap.size, 2, none⟩) hlt1).trans (hbox1 2)), (hW.cell (p := ⟨w.heap.size, 3, none⟩) (Nat.lt_of_lt_of_le hlt1 hb2.size)).trans ((hb2.cell (p := ⟨w.heap.size, 3, none⟩) hlt1).trans (hbox1 3))⟩,
      (hW.cell (p := ⟨w1.heap.size, 0, none⟩) hlt2).trans (hbox2 0), (hW.cell (p := ⟨w1.heap.size, 1, none⟩) hlt2).trans (hbox2 1), (hW.cell (p := ⟨w1.heap.size, 2, none⟩) hlt2).trans (hbox2 2), (hW.cell (p := ⟨w1.heap.size, 3, none⟩) hlt2).trans (hbox2 3)⟩
  have Heq := hid fun W (hW : Below w2.heap.size w2 W) => equal_any a.nums b.nums (.slice a2 M p2) (.slice b2 M' q2) M M' W ((hna.below hb12 (Nat.le_refl _)).below hW (Nat.le_refl _)) ((hnb.below hb12 (Nat.le_refl _)).below hW (Nat.le_refl _))
  have Hfun := hid fun W (hW : Below w2.heap.size w2 W) => eqfunc_any hR hF hS a.kids b.kids a3 b3 N N' p3 q3 W hN hN' hkm hkm' ((hka.below hR hb12 (Nat.le_refl _)).below hR hW (Nat.le_refl _)) ((hkb.below hR hb12 (Nat.le_refl _)).below hR hW (Nat.le_refl _))
  obtain ⟨⟨u0, u1, u2, u3⟩, v0, v1, v2, v3⟩ := Hcell.out w2 (Below.refl _ _)
  have Hb12 := hid hb12
  clear hka hkb hna hnb hbox1 hbox2 hb1 hb2 ha hb hN hN' hM hM' hS hlt1 hlt2 hb12
  by_cases h1 : a.num = b.num
  · have g1 : (a.num == b.num) = true := by rw [h1]; simp
    by_cases h2 : a.bytes = b.bytes
    · have g2 : (a.bytes.toList == b.bytes.toList) = true := by rw [h2]; simp
      by_cases h3 : a.nums = b.nums
      · have Hval := hid (show eqB a b = eqB a.kids b.kids by
          by_cases h4 : a.kids = b.kids
          · rw [eqB_yes h4, eqB_yes (node_ext.2 ⟨h1, h2, h3, h4⟩)]
          · rw [eqB_no h4, eqB_no (fun h => h4 (node_ext.1 h).2.2.2)])
        have Hn := hid (show (a.nums == b.nums) = true by rw [h3]; simp)
        rw [Hn.out] at Heq
        clear h1 h2 h3
        generalize eqB a.kids b.kids = rr at *
        go_enter Tryd.func16, Tryd.ntmps16
        go_wp2_with fail
        ((refine (Heq.out _ (Below.refl _ _)).mono ?_); rintro r3 w3 ⟨rfl, q, rfl⟩)
        clear hw1 hw2 u0 u1 u2 u3 v0 v1 v2 v3
        have hb3 : Below w2.heap.size w2 (w2.drewN q) := below_drewN _ _ _
        obtain ⟨⟨u0, u1, u2, u3⟩, v0, v1, v2, v3⟩ := Hcell.out _ hb3
        go_wp2_with fail
        ((refine (Hfun.out _ hb3).mono ?_); rintro r4 w4 ⟨rfl, hb4⟩)
        have hB4 := via Hb12.out (hb3.trans (hb4.mono hb3.size))
        clear u0 u1 u2 u3 v0 v1 v2 v3 hb4 hb3
        go_wp2_with fail
        go_returns
        exact ⟨by rw [Hval.out]; rfl, hB4⟩
      · have Hval := hid (eqB_no (fun h => h3 (node_ext.1 h).2.2.1))
        have Hn := hid (show (a.nums == b.nums) = false by rw [beq_eq_false_iff_ne]; exact h3)
        rw [Hn.out] at Heq
        clear h1 h2 h3
        go_enter Tryd.func16, Tryd.ntmps16
        go_wp2_with fail
        ((refine (Heq.out _ (Below.refl _ _)).mono ?_); rintro r3 w3 ⟨rfl, q, rfl⟩)
        clear hw1 hw2 u0 u1 u2 u3 v0 v1 v2 v3
        have hB4 := via Hb12.out (below_drewN w2.heap.size w2 q)
        go_wp2_with fail
        go_returns
        exact ⟨by rw [Hval.out]; rfl, hB4⟩
    · have g2 : (a.bytes.toList == b.bytes.toList) = false := by rw [beq_eq_false_iff_ne]; exact fun h => h2 (bytes_inj h)
      have Hval := hid (eqB_no (fun h => h2 (node_ext.1 h).2.1))
      clear h1 h2
      go_enter Tryd.func16, Tryd.ntmps16
      go_wp2_with fail
      go_returns
      exact ⟨by rw [Hval.out]; rfl, Hb12.out⟩
  · have g1 : (a.num == b.num) = false := by rw [beq_eq_false_iff_ne]; exact h1
    have Hval := hid (eqB_no (fun h => h1 (node_ext.1 h).1))
    clear h1
    go_enter Tryd.func16, Tryd.ntmps16
    go_wp2_with fail
    go_returns
    exact ⟨by rw [Hval.out]; rfl, Hb12.out⟩

theorem same_S : ∀ d, SameC (RdS d)
  | 0 => fun _ _ _ _ _ h => h.elim
  | d + 1 => same_step (kept_N (kept_S d)) (form_N (RdS d)) (same_step (kept_S d) (form_S d) (same_S d))
end STSame

section SLSame
open Go.RowKit

theorem kept10 {W0 W W' : World} {p1 p2 p3 p4 p5 p6 p7 p8 p9 p10 : Addr} {v1 v2 v3 v4 v5 v6 v7 v8 v9 v10 : Value} (h : W.cell? p1 = some v1 ∧ W.cell? p2 = some v2 ∧ W.cell? p3 = some v3 ∧ W.cell? p4 = some v4 ∧ W.cell? p5 = some v5 ∧ W.cell? p6 = some v6 ∧ W.cell? p7 = some v7 ∧ W.cell? p8 = some v8 ∧ W.cell? p9 = some v9 ∧ W.cell? p10 = some v10 ∧ Below W0.heap.size W0 W) (hb : Below W.heap.size W W') : W'.cell? p1 = some v1 ∧ W'.cell? p2 = some v2 ∧ W'.cell? p3 = some v3 ∧ W'.cell? p4 = some v4 ∧ W'.cell? p5 = some v5 ∧ W'.cell? p6 = some v6 ∧ W'.cell? p7 = some v7 ∧ W'.cell? p8 = some v8 ∧ W'.cell? p9 = some v9 ∧ W'.cell? p10 = some v10 ∧ Below W0.heap.size W0 W' := by
  obtain ⟨h1, h2, h3, h4, h5, h6, h7, h8, h9, h10, h11⟩ := h
  exact ⟨cell_below h1 hb, cell_below h2 hb, cell_below h3 hb, cell_below h4 hb, cell_below h5 hb, cell_below h6 hb, cell_below h7 hb, cell_below h8 hb, cell_below h9 hb, cell_below h10 hb, h11.trans (hb.mono h11.size)⟩
theorem kept10_end {W0 W : World} {p1 p2 p3 p4 p5 p6 p7 p8 p9 p10 : Addr} {v1 v2 v3 v4 v5 v6 v7 v8 v9 v10 : Value} (h : W.cell? p1 = some v1 ∧ W.cell? p2 = some v2 ∧ W.cell? p3 = some v3 ∧ W.cell? p4 = some v4 ∧ W.cell? p5 = some v5 ∧ W.cell? p6 = some v6 ∧ W.cell? p7 = some v7 ∧ W.cell? p8 = some v8 ∧ W.cell? p9 = some v9 ∧ W.cell? p10 = some v10 ∧ Below W0.heap.size W0 W) : Below W0.heap.size W0 W := h.2.2.2.2.2.2.2.2.2.2
theorem kept12 {W0 W W' : World} {p1 p2 p3 p4 p5 p6 p7 p8 p9 p10 p11 p12 : Addr} {v1 v2 v3 v4 v5 v6 v7 v8 v9 v10 v11 v12 : Value} (h : W.cell? p1 = some v1 ∧ W.cell? p2 = some v2 ∧ W.cell? p3 = some v3 ∧ W.cell? p4 = some v4 ∧ W.cell? p5 = some v5 ∧ W.cell? p6 = some v6 ∧ W.cell? p7 = some v7 ∧ W.cell? p8 = some v8 ∧ W.cell? p9 = some v9 ∧ W.cell? p10 = some v10 ∧ W.cell? p11 = some v11 ∧ W.cell? p12 = some v12 ∧ Below W0.heap.size W0 W) (hb : Below W.heap.size W W') : W'.cell? p1 = some v1 ∧ W'.cell? p2 = some v2 ∧ W'.cell? p3 = some v3 ∧ W'.cell? p4 = some v4 ∧ W'.cell? p5 = some v5 ∧ W'.cell? p6 = some v6 ∧ W'.cell? p7 = some v7 ∧ W'.cell? p8 = some v8 ∧ W'.cell? p9 = some v9 ∧ W'.cell? p10 = some v10 ∧ W'.cell? p11 = some v11 ∧ W'.cell? p12 = some v12 ∧ Below W0.heap.size W0 W' := by
  obtain ⟨h1, h2, h3, h4, h5, h6, h7, h8, h9, h10, h11, h12, h13⟩ := h
  exact ⟨cell_below h1 hb, cell_below h2 hb, cell_below h3 hb, cell_below h4 hb, cell_below h5 hb, cell_below h6 hb, cell_below h7 hb, cell_below h8 hb, cell_below h9 hb, cell_below h10 hb, cell_below h11 hb, cell_below h12 hb, h13.trans (hb.mono h13.size)⟩
theorem kept12_end {W0 W : World} {p1 p2 p3 p4 p5 p6 p7 p8 p9 p10 p11 p12 : Addr} {v1 v2 v3 v4 v5 v6 v7 v8 v9 v10 v11 v12 : Value} (h : W.cell? p1 = some v1 ∧ W.cell? p2 = some v2 ∧ W.cell? p3 = some v3 ∧ W.cell? p4 = some v4 ∧ W.cell? p5 = some v5 ∧ W.cell? p6 = some v6 ∧ W.cell? p7 = some v7 ∧ W.cell? p8 = some v8 ∧ W.cell? p9 = some v9 ∧ W.cell? p10 = some v10 ∧ W.cell? p11 = some v11 ∧ W.cell? p12 = some v12 ∧ Below W0.heap.size W0 W) : Below W0.heap.size W0 W := h.2.2.2.2.2.2.2.2.2.2.2.2

theorem kids_of {d : Nat} {W : World} {x y z : Value} {a : Option Addr} {N cap : Nat} {X : St (d + 1)} (h : RdS (d + 1) W [x, y, z, .slice a N cap] X) : Kids (RdF d) W (.slice a N cap) (Node.kids X) := by
  obtain ⟨a2', p2', a3', p3', e, _, _, hk, _, _⟩ := RdN.open h
  have e2 := congrArg (fun l => l[3]?) e
  simp only [List.getElem?_cons_succ, List.getElem?_cons_zero, Option.some.injEq] at e2
  rw [e2]; exact hk
theorem eq_more {α : Type} {l m : List α} {j : Nat} {x y : α} (h : eqB (l.take j) (m.take j) = true) (hx : l[j]? = some x) (hy : m[j]? = some y) : eqB (l.take (j + 1)) (m.take (j + 1)) = eqB x y := by
  have h1 := eqB_iff.1 h
  by_cases e : x = y
  · rw [eqB_yes e, eqB_yes (take_step h1 hx hy e)]
  · rw [eqB_no e]
    refine eqB_no (fun h2 => e ?_)
    have h3 := congrArg (fun l => l[j]?) h2
    simp only [List.getElem?_take, Nat.lt_succ_self, if_true] at h3
    rw [hx, hy] at h3
    exact Option.some.inj h3
theorem eq_less {α : Type} {l m : List α} {j : Nat} (h : eqB (l.take j) (m.take j) = false) : eqB (l.take (j + 1)) (m.take (j + 1)) = false := by
  refine eqB_no (fun h2 => ?_)
  have h3 := congrArg (fun l => l.take j) h2
  simp only [List.take_take, Nat.min_eq_left (Nat.le_succ j)] at h3
  rw [eqB_yes h3] at h
  cases h

set_option maxRecDepth 100000 in
set_option maxHeartbeats 80000000 in
theorem tsame_walk (ua va : Value) (Ta : Int) (ta la : List Int) (ub vb : Value) (Tb : Int) (tb lb : List Int) (how at_ n : Int) (str : ByteArray) (down : Bool) (w : World) (hl : LaidE w)
    (hua : Row w 1 ua ta.length (ta.map (Value.int .i64))) (hva : Row w 1 va la.length (la.map (Value.int .i64))) (hub : Row w 1 ub tb.length (tb.map (Value.int .i64))) (hvb : Row w 1 vb lb.length (lb.map (Value.int .i64)))
    (ba : ∀ z ∈ ta, -9223372036854775808 ≤ z ∧ z ≤ 9223372036854775807) (bva : ∀ z ∈ la, -9223372036854775808 ≤ z ∧ z ≤ 9223372036854775807) (hTa : -9223372036854775808 ≤ Ta ∧ Ta ≤ 9223372036854775807)
    (bb : ∀ z ∈ tb, -9223372036854775808 ≤ z ∧ z ≤ 9223372036854775807) (bvb : ∀ z ∈ lb, -9223372036854775808 ≤ z ∧ z ≤ 9223372036854775807) (hTb : -9223372036854775808 ≤ Tb ∧ Tb ≤ 9223372036854775807) (hat : -9223372036854775808 ≤ at_ ∧ at_ ≤ 9223372036854775807) :
    Calls Tryd.prog 5 #[.agg #[ua, va, .int .i64 Ta], .agg #[ub, vb, .int .i64 Tb], .agg #[.int .i64 how, .int .i64 at_, .int .i64 n, .string str, .bool down]] w fun r w' => r = .returned (.bool true) ∧ Below w.heap.size w w' := by
  obtain ⟨aua, cua, huae, _⟩ := hua.open
  obtain ⟨ava, cva, hvae, _⟩ := hva.open
  obtain ⟨aub, cub, hube, _⟩ := hub.open
  obtain ⟨avb, cvb, hvbe, _⟩ := hvb.open
  obtain ⟨wa, hwa, hba, hlta, hboxa⟩ := boxed w #[ua, va, .int .i64 Ta] 24
  obtain ⟨wb, hwb, hbb, hltb, hboxb⟩ := boxed wa #[ub, vb, .int .i64 Tb] 24
  obtain ⟨wc, hwc, hbc, hQ⟩ := QB.make wb how at_ n str down 26
  have hbac := hbb.trans (hbc.mono hbb.size)
  have Hq := hid fun W (hW : Below wc.heap.size wc W) => show (W.cell? ⟨w.heap.size, 0, none⟩ = some ua ∧ W.cell? ⟨w.heap.size, 1, none⟩ = some va ∧ W.cell? ⟨w.heap.size, 2, none⟩ = some (.int .i64 Ta)) ∧ W.cell? ⟨wa.heap.size, 0, none⟩ = some ub ∧ W.cell? ⟨wa.heap.size, 1, none⟩ = some vb ∧ W.cell? ⟨wa.heap.size, 2, none⟩ = some (.int .i64 Tb) from by
    have h1 := hbac.trans (hW.mono hbac.size)
    have h2 := hbc.trans (hW.mono hbc.size)
    exact ⟨⟨(h1.cell (p := ⟨w.heap.size, 0, none⟩) hlta).trans (hboxa 0), (h1.cell (p := ⟨w.heap.size, 1, none⟩) hlta).trans (hboxa 1), (h1.cell (p := ⟨w.heap.size, 2, none⟩) hlta).trans (hboxa 2)⟩,
      (h2.cell (p := ⟨wa.heap.size, 0, none⟩) hltb).trans (hboxb 0), (h2.cell (p := ⟨wa.heap.size, 1, none⟩) hltb).trans (hboxb 1), (h2.cell (p := ⟨wa.heap.size, 2, none⟩) hltb).trans (hboxb 2)⟩
  have hb0 := via hba hbac
  have hl1 := LaidE.below hl hb0 (LaidE.pos hl)
  have Hsa := hid fun W (hW : Below w.heap.size w W) => spec_any 4 5 (by omega) rfl ua va Ta ta la W (hua.below hW (Nat.le_refl _)) (hva.below hW (Nat.le_refl _)) ba bva hTa
  have Hsb := hid fun W (hW : Below w.heap.size w W) => spec_any 4 5 (by omega) rfl ub vb Tb tb lb W (hub.below hW (Nat.le_refl _)) (hvb.below hW (Nat.le_refl _)) bb bvb hTb
  have HQ := hid fun W (hW : Below wc.heap.size wc W) => hQ.below hW
  subst huae hvae hube hvbe
  clear hua hva hub hvb hboxa hboxb hba hbb hbc hlta hltb hQ hbac ba bva bb bvb
  obtain ⟨⟨q0, q1, q2⟩, _⟩ := Hq.out _ (Below.refl _ _)
  go_enter Tryd.func5, Tryd.ntmps5
  go_wp2_with fail
  ((refine (awake06 _ hl1).mono ?_); rintro r2 w2 ⟨rfl, hb2⟩)
  clear hwa hwb hwc q0 q1 q2
  obtain ⟨⟨q0, q1, q2⟩, _⟩ := Hq.out _ hb2
  have hb02 := via hb0 hb2
  have hl2 := LaidE.below hl1 hb2 (LaidE.pos hl1)
  go_wp2_with fail
  clear q0 q1 q2
  ((refine (Hsa.out _ hb02).mono ?_); rintro r3 w3 ⟨sv, s, t, x0, x1, x2, x3, X, rfl, hb3, hs, hr, ht, _, hrd, hfit⟩)
  obtain ⟨a2, p2, a, cap, hcs, hbs, _, hk, hnm, hkm⟩ := RdN.open hrd
  simp only [List.cons.injEq] at hcs
  obtain ⟨rfl, rfl, rfl, rfl, _⟩ := hcs
  have hb23 := hb2.trans (hb3.mono hb2.size)
  obtain ⟨N, hN⟩ : ∃ N, N = (Node.kids X).length := ⟨_, rfl⟩
  rw [← hN] at hrd hkm hk ⊢
  obtain ⟨w4, hw4, hb4, hz4, hV⟩ := TB.make w3 (U (Node.num X)) (.string (Node.bytes X)) (.slice a2 (Node.nums X).length p2) (.slice a N cap) 34
  have hb24 := hb23.trans (hb4.mono hb23.size)
  have hl4 := LaidE.below hl1 hb24 (LaidE.pos hl1)
  have HV := hid fun W (hW : Below w4.heap.size w4 W) => hV.below hW
  have HN := hid hN
  have Hsc := hid (And.intro hr hfit)
  have Hrd := hid fun W (hW : Below w3.heap.size w3 W) => hrd.below hW (Nat.le_refl _)
  obtain ⟨_, q3, q4, q5⟩ := Hq.out _ hb24
  clear hb2 hb3 hl2 hb02 hk hN hr hs ht hfit hrd hV hz4 hb23 Hsa
  go_wp2_with fail
  clear q3 q4 q5 hw4
  ((refine (Hsb.out _ (via hb0 hb24)).mono ?_); rintro r5 w5 ⟨sv2, s2', tt2, x0, x1, x2, x3, Z, rfl, hb5, _, _, _, _, hrz, _⟩)
  obtain ⟨e2, s2, e3, s3, hcs, _, _, _, hnm2, hkm2⟩ := RdN.open hrz
  simp only [List.cons.injEq] at hcs
  obtain ⟨rfl, rfl, rfl, rfl, _⟩ := hcs
  obtain ⟨L, hL⟩ : ∃ N, N = (Node.kids Z).length := ⟨_, rfl⟩
  rw [← hL] at hrz hkm2 ⊢
  obtain ⟨w6, hw6, hb6, hz6, hV6⟩ := TB.make w5 (U (Node.num Z)) (.string (Node.bytes Z)) (.slice e2 (Node.nums Z).length s2) (.slice e3 L s3) 34
  have hb46 := hb5.trans (hb6.mono hb5.size)
  have hb26 := hb24.trans (hb46.mono hb24.size)
  have HV6 := hid fun W (hW : Below w6.heap.size w6 W) => hV6.below hW
  have HL := hid hL
  have Hrz := hid fun W (hW : Below w5.heap.size w5 W) => hrz.below hW (Nat.le_refl _)
  have hQ6 := HQ.out _ hb26
  have ⟨_, y0, y1, y2, y3, _⟩ := HV.out _ hb46
  have ⟨_, t0, t1, t2', t3, t4, _⟩ := hQ6
  have Hsp := hid (spoilt_any s Hsc.out.1 4 t X _ w6 w6 (Below.refl _ _) (Hrd.out _ (hb4.trans (hb46.mono hb4.size))) Hsc.out.2 how at_ n str hat down)
  clear hb24 hL hrz hV6 hz6 hb5 Hsb hQ6 Hsc
  go_wp2_with fail
  clear t0 t1 t2' t3 t4 y0 y1 y2 y3 hw6
  ((refine Hsp.out.mono ?_); intro r7 w7 h7)
  obtain ⟨b2, q2, b3, q3, Y, rfl, hnY, hrY, hb7⟩ := h7.later (Below.refl _ _)
  have Hky := hid (hrY _ (Below.refl _ _))
  obtain ⟨_, _, _, _, hcs, _, _, _, _, hkmy⟩ := RdN.open Hky.out
  clear hcs h7 Hsp
  obtain ⟨M, hM⟩ : ∃ N, N = (Node.kids Y).length := ⟨_, rfl⟩
  rw [← hM] at hrY hkmy ⊢
  obtain ⟨w9, hw9, hb9, hz9, hV9⟩ := TB.make w7 (U (Node.num Y)) (.string (Node.bytes Y)) (.slice b2 (Node.nums Y).length q2) (.slice b3 M q3) 34
  have hb69 := hb7.trans (hb9.mono hb7.size)
  have hb49 := hb46.trans (hb69.mono hb46.size)
  have hb29 := hb26.trans (hb69.mono hb26.size)
  have Hb9 := hid (via hb0 hb29)
  have ⟨ltV, y0, y1, y2, y3, _⟩ := HV.out _ hb49
  have ⟨ltZ, z0, z1, z2, z3, _⟩ := HV6.out _ hb69
  have ⟨ltY, v0, v1, v2, v3, _⟩ := hV9
  have HX := hid fun W (hW : Below w9.heap.size w9 W) => Hrd.out W ((hb4.trans (hb49.mono hb4.size)).trans (hW.mono (hb4.trans (hb49.mono hb4.size)).size))
  have HZ := hid fun W (hW : Below w9.heap.size w9 W) => Hrz.out W ((hb6.trans (hb69.mono hb6.size)).trans (hW.mono (hb6.trans (hb69.mono hb6.size)).size))
  have HY := hid fun W (hW : Below w9.heap.size w9 W) => hrY W (hb9.trans (hW.mono hb9.size))
  have Hcell := hid fun W (hW : Below w9.heap.size w9 W) => show W.cell? ⟨w3.heap.size, 0, none⟩ = some (U (Node.num X)) ∧ W.cell? ⟨w3.heap.size, 1, none⟩ = some (.string (Node.bytes X)) ∧ W.cell? ⟨w3.heap.size, 2, none⟩ = some (.slice a2 (Node.nums X).length p2) ∧ W.cell? ⟨w3.heap.size, 3, none⟩ = some (.slice a N cap) ∧
      W.cell? ⟨w5.heap.size, 0, none⟩ = some (U (Node.num Z)) ∧ W.cell? ⟨w5.heap.size, 1, none⟩ = some (.string (Node.bytes Z)) ∧ W.cell? ⟨w5.heap.size, 2, none⟩ = some (.slice e2 (Node.nums Z).length s2) ∧ W.cell? ⟨w5.heap.size, 3, none⟩ = some (.slice e3 L s3) ∧
      W.cell? ⟨w7.heap.size, 0, none⟩ = some (U (Node.num Y)) ∧ W.cell? ⟨w7.heap.size, 1, none⟩ = some (.string (Node.bytes Y)) ∧ W.cell? ⟨w7.heap.size, 2, none⟩ = some (.slice b2 (Node.nums Y).length q2) ∧ W.cell? ⟨w7.heap.size, 3, none⟩ = some (.slice b3 M q3) ∧ Below w9.heap.size w9 W from
    ⟨(hW.cell ltV).trans y0, (hW.cell ltV).trans y1, (hW.cell ltV).trans y2, (hW.cell ltV).trans y3, (hW.cell ltZ).trans z0, (hW.cell ltZ).trans z1, (hW.cell ltZ).trans z2, (hW.cell ltZ).trans z3, (hW.cell ltY).trans v0, (hW.cell ltY).trans v1, (hW.cell ltY).trans v2, (hW.cell ltY).trans v3, hW⟩
  obtain ⟨bxy, hbxy⟩ : ∃ b, b = eqB X Y := ⟨_, rfl⟩
  obtain ⟨bxz, hbxz⟩ : ∃ b, b = eqB X Z := ⟨_, rfl⟩
  have HXX := hid fun W (hW : Below w9.heap.size w9 W) => same_S 5 X X _ _ W (HX.out W hW) (HX.out W hW)
  have HXZ := hid fun W (hW : Below w9.heap.size w9 W) => same_S 5 X Z _ _ W (HX.out W hW) (HZ.out W hW)
  have HZX := hid fun W (hW : Below w9.heap.size w9 W) => same_S 5 Z X _ _ W (HZ.out W hW) (HX.out W hW)
  have HXY := hid fun W (hW : Below w9.heap.size w9 W) => same_S 5 X Y _ _ W (HX.out W hW) (HY.out W hW)
  have HZY := hid fun W (hW : Below w9.heap.size w9 W) => same_S 5 Z Y _ _ W (HZ.out W hW) (HY.out W hW)
  have hcomm : eqB Z X = bxz := by
    rw [hbxz]
    by_cases e : X = Z
    · rw [eqB_yes e, eqB_yes e.symm]
    · rw [eqB_no e, eqB_no (fun h => e h.symm)]
  rw [eqB_yes (rfl : X = X)] at HXX
  rw [← hbxz] at HXZ
  rw [hcomm] at HZX
  rw [← hbxy] at HXY
  have HKX := hid fun W (hW : Below w9.heap.size w9 W) => kids_of (HX.out W hW)
  have HKY := hid fun W (hW : Below w9.heap.size w9 W) => kids_of (HY.out W hW)
  have HSf := hid (same_step (kept_S 4) (form_S 4) (same_S 4))
  have HM := hid hM
  have Hbxy := hid hbxy
  have Hbxz := hid hbxz
  have HnY := hid hnY
  have Hbr := hid (Below.refl w9.heap.size w9)
  have hl9 := LaidE.below hl1 hb29 (LaidE.pos hl1)
  clear hb7 hb9 hz9 hV9 hrY hM hbxy hbxz hnY hcomm HX HZ HY HV HV6 HQ Hq Hrd Hrz hb29 hb49 hb69 hb46 hb26 hb6 hb4 hb0 hl1 hl4 ltV ltZ ltY Hky hl9
  clear y0 y1 y2 y3 z0 z1 z2 z3 v0 v1 v2 v3
  obtain ⟨cc, hcc⟩ : ∃ c : Bool, c = !(decide (N = M) && (Node.num X == Node.num Y)) := ⟨_, rfl⟩
  have Hcc := hid hcc
  have Hc1 := hid (show cc = true → bxy = false from fun h => by
    rw [Hbxy.out]
    refine eqB_no (fun e => ?_)
    rw [Hcc.out, HN.out, HM.out, e] at h
    simp at h)
  have Hc0 := hid (show cc = false → eqB (Node.kids X) (Node.kids Y) = bxy ∧ N = M from fun h => by
    rw [Hcc.out, Bool.not_eq_false', Bool.and_eq_true, decide_eq_true_eq, beq_iff_eq] at h
    refine ⟨?_, h.1⟩
    rw [Hbxy.out]
    by_cases e : Node.kids X = Node.kids Y
    · rw [eqB_yes e]; exact (eqB_yes (node_ext.2 ⟨h.2, HnY.out.1.symm, HnY.out.2.symm, e⟩)).symm
    · rw [eqB_no e]; exact (eqB_no (fun h => e (node_ext.1 h).2.2.2)).symm)
  clear hcc
  go_upto_block 0 with fail
  clear hw9
  go_cut [15, 16] from 33 to 60 (fun s15 s16 wx => ∃ b : Bool, s15 = .bool b ∧ (N = M → b = eqB (Node.kids X) (Node.kids Y)) ∧ Below w9.heap.size w9 wx)
  case first =>
    go_wp2_with fail
    go_loopw [15, 16] (fun sv iv wr => ∃ i : Nat, i ≤ N ∧ i ≤ M ∧ iv = .int .i64 i ∧ sv = .bool (eqB ((Node.kids X).take i) ((Node.kids Y).take i)) ∧ Below w9.heap.size w9 wr) (fun _ iv _ => N - (intOf iv).toNat)
    case atStart => exact ⟨0, Nat.zero_le _, Nat.zero_le _, rfl, by rw [List.take_zero, List.take_zero, eqB_yes rfl], Hbr.out⟩
    case round =>
      obtain ⟨i, hiN, hiM, rfl, rfl, hbl⟩ := hrel
      obtain ⟨g0, g1, g2, g3, _, _, _, _, g4, g5, g6', g6, _⟩ := Hcell.out _ hbl
      by_cases h1 : i < N
      · by_cases h2 : i < M
        · obtain ⟨kx, hkx⟩ := get_lt (l := Node.kids X) (i := i) (by rw [← HN.out]; exact h1)
          obtain ⟨ky, hky⟩ := get_lt (l := Node.kids Y) (i := i) (by rw [← HM.out]; exact h2)
          obtain ⟨bx, ox, x2, x3, x5, x6, rfl, hbx, c0, c1, c2, c3, _, _, _, hrx, _, _⟩ := Kids.at_ (HKX.out _ hbl) hkx
          obtain ⟨by_, oy, y2, y3, y5, y6, rfl, hby, d0, d1, d2, d3, _, _, _, hry, _, _⟩ := Kids.at_ (HKY.out _ hbl) hky
          have hcall := fun W (hW : Below wr.heap.size wr W) => HSf.out kx ky _ _ W (kept_N (kept_S 4) _ _ _ _ _ hrx hW (Nat.le_refl _)) (kept_N (kept_S 4) _ _ _ _ _ hry hW (Nat.le_refl _))
          have Hkx := hid hkx
          have Hky := hid hky
          clear hkx hky hrx hry
          obtain ⟨be, hbe⟩ : ∃ b, b = eqB ((Node.kids X).take i) ((Node.kids Y).take i) := ⟨_, rfl⟩
          rw [← hbe]
          have Hbe := hid hbe
          clear hbe
          cases be with
          | true =>
            have Hnext := hid (eq_more Hbe.out.symm Hkx.out Hky.out)
            rw [← Hnext.out] at hcall
            have Hbn := hid (⟨_, rfl⟩ : ∃ b, b = eqB ((Node.kids X).take (i + 1)) ((Node.kids Y).take (i + 1)))
            obtain ⟨bn, hbn⟩ := Hbn.out
            rw [← hbn] at hcall
            have Hbn2 := hid hbn
            clear hbn Hbn Hnext
            go_wp2_with fail
            refine wp_region_held_drew (S := (fun W => W.cell? ⟨w3.heap.size, 3, none⟩ = some (.slice (some ⟨bx, ox, none⟩) N cap) ∧ W.cell? ⟨w7.heap.size, 3, none⟩ = some (.slice (some ⟨by_, oy, none⟩) M q3) ∧ W.cell? ⟨bx, ox + i * 4, none⟩ = some (U kx.num) ∧ W.cell? ⟨bx, ox + i * 4 + 1, none⟩ = some (.string kx.bytes) ∧ W.cell? ⟨bx, ox + i * 4 + 2, none⟩ = some (.slice x2 kx.nums.length x3) ∧ W.cell? ⟨bx, ox + i * 4 + 3, none⟩ = some (.slice x5 kx.kids.length x6) ∧ W.cell? ⟨by_, oy + i * 4, none⟩ = some (U ky.num) ∧ W.cell? ⟨by_, oy + i * 4 + 1, none⟩ = some (.string ky.bytes) ∧ W.cell? ⟨by_, oy + i * 4 + 2, none⟩ = some (.slice y2 ky.nums.length y3) ∧ W.cell? ⟨by_, oy + i * 4 + 3, none⟩ = some (.slice y5 ky.kids.length y6) ∧ Below wr.heap.size wr W)) (by kernel_rfl) ?_ (fun hHeld => ?_)
            · exact ⟨g3, g6, c0, c1, c2, c3, d0, d1, d2, d3, below_drewN _ _ 1⟩
            refine wpAnyH_take (i := 0) (oi := { dst := some 47, op := Go.Op.move (Go.Operand.tmp 15), type := 4, pos := "law.go:130", after := #[], guard := none }) (v := ?vr9t0) rfl (by kernel_rfl) (by kernel_rfl) (by kernel_rfl) (fun _ _ _ h => h) (Or.inl ⟨by rfl, ?hyr9t0⟩) (by assumption) ?restr9t0
            case hyr9t0 => first | (intro w hSw; (try dsimp only at hSw); go_simp; done) | (intro w hSw; (try dsimp only at hSw); go_simp; with_reducible rfl)
            try simp only [Act.put, List.setIfInBounds_toArray, List.set_cons_zero, List.set_cons_succ]
            refine wpAnyH_take (i := 1) (oi := { dst := some 48, op := Go.Op.move (Go.Operand.tmp 47), type := 4, pos := "law.go:130", after := #[{ on := 0, ground := Go.Ground.data }], guard := none }) (v := ?vr9t1) rfl (by kernel_rfl) (by kernel_rfl) (by kernel_rfl) (fun _ _ _ h => h) (Or.inl ⟨by rfl, ?hyr9t1⟩) (by assumption) ?restr9t1
            case hyr9t1 => first | (intro w hSw; (try dsimp only at hSw); go_simp; done) | (intro w hSw; (try dsimp only at hSw); go_simp; with_reducible rfl)
            try simp only [Act.put, List.setIfInBounds_toArray, List.set_cons_zero, List.set_cons_succ]
            refine wpAnyH_take (i := 2) (oi := { dst := some 49, op := Go.Op.fieldAddr 34 (Go.Operand.tmp 10) 3, type := 0, pos := "law.go:130", after := #[{ on := 1, ground := Go.Ground.guard }], guard := some (1, true) }) (v := ?vr9t2) rfl (by kernel_rfl) (by kernel_rfl) (by kernel_rfl) (fun _ _ _ h => h) (Or.inl ⟨by rfl, ?hyr9t2⟩) (by assumption) ?restr9t2
            case hyr9t2 => first | (intro w hSw; (try dsimp only at hSw); go_simp; done) | (intro w hSw; (try dsimp only at hSw); go_simp; with_reducible rfl)
            try simp only [Act.put, List.setIfInBounds_toArray, List.set_cons_zero, List.set_cons_succ]
            refine wpAnyH_take (i := 3) (oi := { dst := some 50, op := Go.Op.load 32 (Go.Operand.tmp 49), type := 32, pos := "law.go:130", after := #[{ on := 2, ground := Go.Ground.data }, { on := 1, ground := Go.Ground.guard }], guard := some (1, true) }) (v := ?vr9t3) rfl (by kernel_rfl) (by kernel_rfl) (by kernel_rfl) (fun _ _ _ h => h) (Or.inl ⟨by rfl, ?hyr9t3⟩) (by assumption) ?restr9t3
            case hyr9t3 => first | (intro w hSw; (try dsimp only at hSw); go_simp; done) | (intro w hSw; (try dsimp only at hSw); go_simp; with_reducible rfl)
            try simp only [Act.put, List.setIfInBounds_toArray, List.set_cons_zero, List.set_cons_succ]
            refine wpAnyH_take (i := 4) (oi := { dst := some 51, op := Go.Op.move (Go.Operand.tmp 16), type := 3, pos := "law.go:130", after := #[{ on := 1, ground := Go.Ground.guard }], guard := some (1, true) }) (v := ?vr9t4) rfl (by kernel_rfl) (by kernel_rfl) (by kernel_rfl) (fun _ _ _ h => h) (Or.inl ⟨by rfl, ?hyr9t4⟩) (by assumption) ?restr9t4
            case hyr9t4 => first | (intro w hSw; (try dsimp only at hSw); go_simp; done) | (intro w hSw; (try dsimp only at hSw); go_simp; with_reducible rfl)
            try simp only [Act.put, List.setIfInBounds_toArray, List.set_cons_zero, List.set_cons_succ]
            refine wpAnyH_take (i := 5) (oi := { dst := some 52, op := Go.Op.indexAddr 32 (Go.Operand.tmp 50) (Go.Operand.tmp 51), type := 0, pos := "law.go:130", after := #[{ on := 3, ground := Go.Ground.data }, { on := 4, ground := Go.Ground.data }, { on := 1, ground := Go.Ground.guard }], guard := some (1, true) }) (v := ?vr9t5) rfl (by kernel_rfl) (by kernel_rfl) (by kernel_rfl) (fun _ _ _ h => h) (Or.inl ⟨by rfl, ?hyr9t5⟩) (by assumption) ?restr9t5
            case hyr9t5 => first | (intro w hSw; (try dsimp only at hSw); go_simp; done) | (intro w hSw; (try dsimp only at hSw); go_simp; with_reducible rfl)
            try simp only [Act.put, List.setIfInBounds_toArray, List.set_cons_zero, List.set_cons_succ]
            refine wpAnyH_take (i := 6) (oi := { dst := some 53, op := Go.Op.load 34 (Go.Operand.tmp 52), type := 34, pos := "law.go:130", after := #[{ on := 5, ground := Go.Ground.data }, { on := 1, ground := Go.Ground.guard }], guard := some (1, true) }) (v := ?vr9t6) rfl (by kernel_rfl) (by kernel_rfl) (by kernel_rfl) (fun _ _ _ h => h) (Or.inl ⟨by rfl, ?hyr9t6⟩) (by assumption) ?restr9t6
            case hyr9t6 => first | (intro w hSw; (try dsimp only at hSw); go_simp; done) | (intro w hSw; (try dsimp only at hSw); go_simp; with_reducible rfl)
            try simp only [Act.put, List.setIfInBounds_toArray, List.set_cons_zero, List.set_cons_succ]
            refine wpAnyH_take (i := 7) (oi := { dst := some 54, op := Go.Op.fieldAddr 34 (Go.Operand.tmp 14) 3, type := 0, pos := "law.go:130", after := #[{ on := 1, ground := Go.Ground.guard }], guard := some (1, true) }) (v := ?vr9t7) rfl (by kernel_rfl) (by kernel_rfl) (by kernel_rfl) (fun _ _ _ h => h) (Or.inl ⟨by rfl, ?hyr9t7⟩) (by assumption) ?restr9t7
            case hyr9t7 => first | (intro w hSw; (try dsimp only at hSw); go_simp; done) | (intro w hSw; (try dsimp only at hSw); go_simp; with_reducible rfl)
            try simp only [Act.put, List.setIfInBounds_toArray, List.set_cons_zero, List.set_cons_succ]
            refine wpAnyH_take (i := 8) (oi := { dst := some 55, op := Go.Op.load 32 (Go.Operand.tmp 54), type := 32, pos := "law.go:130", after := #[{ on := 7, ground := Go.Ground.data }, { on := 1, ground := Go.Ground.guard }], guard := some (1, true) }) (v := ?vr9t8) rfl (by kernel_rfl) (by kernel_rfl) (by kernel_rfl) (fun _ _ _ h => h) (Or.inl ⟨by rfl, ?hyr9t8⟩) (by assumption) ?restr9t8
            case hyr9t8 => first | (intro w hSw; (try dsimp only at hSw); go_simp; done) | (intro w hSw; (try dsimp only at hSw); go_simp; with_reducible rfl)
            try simp only [Act.put, List.setIfInBounds_toArray, List.set_cons_zero, List.set_cons_succ]
            refine wpAnyH_take (i := 9) (oi := { dst := some 56, op := Go.Op.move (Go.Operand.tmp 16), type := 3, pos := "law.go:130", after := #[{ on := 1, ground := Go.Ground.guard }], guard := some (1, true) }) (v := ?vr9t9) rfl (by kernel_rfl) (by kernel_rfl) (by kernel_rfl) (fun _ _ _ h => h) (Or.inl ⟨by rfl, ?hyr9t9⟩) (by assumption) ?restr9t9
            case hyr9t9 => first | (intro w hSw; (try dsimp only at hSw); go_simp; done) | (intro w hSw; (try dsimp only at hSw); go_simp; with_reducible rfl)
            try simp only [Act.put, List.setIfInBounds_toArray, List.set_cons_zero, List.set_cons_succ]
            refine wpAnyH_take (i := 10) (oi := { dst := some 57, op := Go.Op.indexAddr 32 (Go.Operand.tmp 55) (Go.Operand.tmp 56), type := 0, pos := "law.go:130", after := #[{ on := 8, ground := Go.Ground.data }, { on := 9, ground := Go.Ground.data }, { on := 1, ground := Go.Ground.guard }], guard := some (1, true) }) (v := ?vr9t10) rfl (by kernel_rfl) (by kernel_rfl) (by kernel_rfl) (fun _ _ _ h => h) (Or.inl ⟨by rfl, ?hyr9t10⟩) (by assumption) ?restr9t10
            case hyr9t10 => first | (intro w hSw; (try dsimp only at hSw); go_simp; done) | (intro w hSw; (try dsimp only at hSw); go_simp; with_reducible rfl)
            try simp only [Act.put, List.setIfInBounds_toArray, List.set_cons_zero, List.set_cons_succ]
            refine wpAnyH_take (i := 11) (oi := { dst := some 58, op := Go.Op.load 34 (Go.Operand.tmp 57), type := 34, pos := "law.go:130", after := #[{ on := 10, ground := Go.Ground.data }, { on := 1, ground := Go.Ground.guard }], guard := some (1, true) }) (v := ?vr9t11) rfl (by kernel_rfl) (by kernel_rfl) (by kernel_rfl) (fun _ _ _ h => h) (Or.inl ⟨by rfl, ?hyr9t11⟩) (by assumption) ?restr9t11
            case hyr9t11 => first | (intro w hSw; (try dsimp only at hSw); go_simp; done) | (intro w hSw; (try dsimp only at hSw); go_simp; with_reducible rfl)
            try simp only [Act.put, List.setIfInBounds_toArray, List.set_cons_zero, List.set_cons_succ]
            refine wpAnyH_ready (rs := [12]) (by kernel_rfl) (by simp) ?_
            refine AllReadyH.cons (o := { dst := some 59, op := Go.Op.call { callee := Go.Callee.value (Go.Operand.func 16), args := #[Go.Operand.tmp 53, Go.Operand.tmp 58], argTypes := #[34, 34] }, type := 4, pos := "law.go:130", after := #[{ on := 6, ground := Go.Ground.data }, { on := 11, ground := Go.Ground.data }, { on := 1, ground := Go.Ground.chain }, { on := 1, ground := Go.Ground.guard }], guard := some (1, true) }) rfl (fun K hK => ?_) AllReadyH.nil
            go_simp
            ((refine (hcall _ (kept10_end hHeld)).mono ?_); rintro rr9t wr9t ⟨rfl, hbr9t⟩)
            refine hK.out _ _ ?_ (fun hHeld => ?_)
            · exact kept10 hHeld hbr9t
            clear hK K
            try simp only [Act.put, List.setIfInBounds_toArray, List.set_cons_zero, List.set_cons_succ]
            refine wpAnyH_take (i := 13) (oi := { dst := some 60, op := Go.Op.pick (Go.Operand.tmp 48) (Go.Operand.tmp 59) (Go.Operand.const (Go.Value.bool false)), type := 4, pos := "law.go:130", after := #[{ on := 1, ground := Go.Ground.data }, { on := 12, ground := Go.Ground.data }], guard := none }) (v := ?vr9t13) rfl (by kernel_rfl) (by kernel_rfl) (by kernel_rfl) (fun _ _ _ h => h) (Or.inl ⟨by rfl, ?hyr9t13⟩) (by assumption) ?restr9t13
            case hyr9t13 => first | (intro w hSw; (try dsimp only at hSw); go_simp; done) | (intro w hSw; (try dsimp only at hSw); go_simp; with_reducible rfl)
            try simp only [Act.put, List.setIfInBounds_toArray, List.set_cons_zero, List.set_cons_succ]
            refine wpAnyH_take (i := 14) (oi := { dst := some 15, op := Go.Op.assign (Go.Operand.tmp 60), type := 4, pos := "law.go:130", after := #[{ on := 13, ground := Go.Ground.data }, { on := 12, ground := Go.Ground.chain }, { on := 0, ground := Go.Ground.phase }, { on := 1, ground := Go.Ground.phase }, { on := 2, ground := Go.Ground.phase }, { on := 3, ground := Go.Ground.phase }, { on := 4, ground := Go.Ground.phase }, { on := 5, ground := Go.Ground.phase }, { on := 6, ground := Go.Ground.phase }, { on := 7, ground := Go.Ground.phase }, { on := 8, ground := Go.Ground.phase }, { on := 9, ground := Go.Ground.phase }, { on := 10, ground := Go.Ground.phase }, { on := 11, ground := Go.Ground.phase }, { on := 12, ground := Go.Ground.phase }, { on := 13, ground := Go.Ground.phase }], guard := none }) (v := ?vr9t14) rfl (by kernel_rfl) (by kernel_rfl) (by kernel_rfl) (fun _ _ _ h => h) (Or.inl ⟨by rfl, ?hyr9t14⟩) (by assumption) ?restr9t14
            case hyr9t14 => first | (intro w hSw; (try dsimp only at hSw); go_simp; done) | (intro w hSw; (try dsimp only at hSw); go_simp; with_reducible rfl)
            try simp only [Act.put, List.setIfInBounds_toArray, List.set_cons_zero, List.set_cons_succ]
            refine wpAnyH_done (by kernel_rfl) ?_ _
            have hfin := hbl.trans ((kept10_end hHeld).mono hbl.size)
            clear hcall g0 g1 g2 g3 g4 g5 g6 g6' c0 c1 c2 c3 d0 d1 d2 d3
            go_wp2_with fail
            go_roundw
            case rel => exact ⟨i + 1, by omega, by omega, by go_num, by rw [Hbn2.out], hfin⟩
            case measure => simp [intOf] <;> omega
          | false =>
            have Hnext := hid (eq_less Hbe.out.symm)
            go_wp2_with fail
            refine wp_region_held_drew (S := (fun W => W.cell? ⟨w3.heap.size, 3, none⟩ = some (.slice (some ⟨bx, ox, none⟩) N cap) ∧ W.cell? ⟨w7.heap.size, 3, none⟩ = some (.slice (some ⟨by_, oy, none⟩) M q3) ∧ W.cell? ⟨bx, ox + i * 4, none⟩ = some (U kx.num) ∧ W.cell? ⟨bx, ox + i * 4 + 1, none⟩ = some (.string kx.bytes) ∧ W.cell? ⟨bx, ox + i * 4 + 2, none⟩ = some (.slice x2 kx.nums.length x3) ∧ W.cell? ⟨bx, ox + i * 4 + 3, none⟩ = some (.slice x5 kx.kids.length x6) ∧ W.cell? ⟨by_, oy + i * 4, none⟩ = some (U ky.num) ∧ W.cell? ⟨by_, oy + i * 4 + 1, none⟩ = some (.string ky.bytes) ∧ W.cell? ⟨by_, oy + i * 4 + 2, none⟩ = some (.slice y2 ky.nums.length y3) ∧ W.cell? ⟨by_, oy + i * 4 + 3, none⟩ = some (.slice y5 ky.kids.length y6) ∧ Below wr.heap.size wr W)) (by kernel_rfl) ?_ (fun hHeld => ?_)
            · exact ⟨g3, g6, c0, c1, c2, c3, d0, d1, d2, d3, below_drewN _ _ 1⟩
            refine wpAnyH_take (i := 0) (oi := { dst := some 47, op := Go.Op.move (Go.Operand.tmp 15), type := 4, pos := "law.go:130", after := #[], guard := none }) (v := ?vr9f0) rfl (by kernel_rfl) (by kernel_rfl) (by kernel_rfl) (fun _ _ _ h => h) (Or.inl ⟨by rfl, ?hyr9f0⟩) (by assumption) ?restr9f0
            case hyr9f0 => first | (intro w hSw; (try dsimp only at hSw); go_simp; done) | (intro w hSw; (try dsimp only at hSw); go_simp; with_reducible rfl)
            try simp only [Act.put, List.setIfInBounds_toArray, List.set_cons_zero, List.set_cons_succ]
            refine wpAnyH_take (i := 1) (oi := { dst := some 48, op := Go.Op.move (Go.Operand.tmp 47), type := 4, pos := "law.go:130", after := #[{ on := 0, ground := Go.Ground.data }], guard := none }) (v := ?vr9f1) rfl (by kernel_rfl) (by kernel_rfl) (by kernel_rfl) (fun _ _ _ h => h) (Or.inl ⟨by rfl, ?hyr9f1⟩) (by assumption) ?restr9f1
            case hyr9f1 => first | (intro w hSw; (try dsimp only at hSw); go_simp; done) | (intro w hSw; (try dsimp only at hSw); go_simp; with_reducible rfl)
            try simp only [Act.put, List.setIfInBounds_toArray, List.set_cons_zero, List.set_cons_succ]
            refine wpAnyH_take (i := 2) (oi := { dst := some 49, op := Go.Op.fieldAddr 34 (Go.Operand.tmp 10) 3, type := 0, pos := "law.go:130", after := #[{ on := 1, ground := Go.Ground.guard }], guard := some (1, true) }) (v := undef) rfl (by kernel_rfl) (by kernel_rfl) (by kernel_rfl) (fun _ _ _ h => h) (Or.inr ⟨by rfl, rfl⟩) (by assumption) ?restr9f2
            try simp only [Act.put, List.setIfInBounds_toArray, List.set_cons_zero, List.set_cons_succ]
            refine wpAnyH_take (i := 3) (oi := { dst := some 50, op := Go.Op.load 32 (Go.Operand.tmp 49), type := 32, pos := "law.go:130", after := #[{ on := 2, ground := Go.Ground.data }, { on := 1, ground := Go.Ground.guard }], guard := some (1, true) }) (v := undef) rfl (by kernel_rfl) (by kernel_rfl) (by kernel_rfl) (fun _ _ _ h => h) (Or.inr ⟨by rfl, rfl⟩) (by assumption) ?restr9f3
            try simp only [Act.put, List.setIfInBounds_toArray, List.set_cons_zero, List.set_cons_succ]
            refine wpAnyH_take (i := 4) (oi := { dst := some 51, op := Go.Op.move (Go.Operand.tmp 16), type := 3, pos := "law.go:130", after := #[{ on := 1, ground := Go.Ground.guard }], guard := some (1, true) }) (v := undef) rfl (by kernel_rfl) (by kernel_rfl) (by kernel_rfl) (fun _ _ _ h => h) (Or.inr ⟨by rfl, rfl⟩) (by assumption) ?restr9f4
            try simp only [Act.put, List.setIfInBounds_toArray, List.set_cons_zero, List.set_cons_succ]
            refine wpAnyH_take (i := 5) (oi := { dst := some 52, op := Go.Op.indexAddr 32 (Go.Operand.tmp 50) (Go.Operand.tmp 51), type := 0, pos := "law.go:130", after := #[{ on := 3, ground := Go.Ground.data }, { on := 4, ground := Go.Ground.data }, { on := 1, ground := Go.Ground.guard }], guard := some (1, true) }) (v := undef) rfl (by kernel_rfl) (by kernel_rfl) (by kernel_rfl) (fun _ _ _ h => h) (Or.inr ⟨by rfl, rfl⟩) (by assumption) ?restr9f5
            try simp only [Act.put, List.setIfInBounds_toArray, List.set_cons_zero, List.set_cons_succ]
            refine wpAnyH_take (i := 6) (oi := { dst := some 53, op := Go.Op.load 34 (Go.Operand.tmp 52), type := 34, pos := "law.go:130", after := #[{ on := 5, ground := Go.Ground.data }, { on := 1, ground := Go.Ground.guard }], guard := some (1, true) }) (v := undef) rfl (by kernel_rfl) (by kernel_rfl) (by kernel_rfl) (fun _ _ _ h => h) (Or.inr ⟨by rfl, rfl⟩) (by assumption) ?restr9f6
            try simp only [Act.put, List.setIfInBounds_toArray, List.set_cons_zero, List.set_cons_succ]
            refine wpAnyH_take (i := 7) (oi := { dst := some 54, op := Go.Op.fieldAddr 34 (Go.Operand.tmp 14) 3, type := 0, pos := "law.go:130", after := #[{ on := 1, ground := Go.Ground.guard }], guard := some (1, true) }) (v := undef) rfl (by kernel_rfl) (by kernel_rfl) (by kernel_rfl) (fun _ _ _ h => h) (Or.inr ⟨by rfl, rfl⟩) (by assumption) ?restr9f7
            try simp only [Act.put, List.setIfInBounds_toArray, List.set_cons_zero, List.set_cons_succ]
            refine wpAnyH_take (i := 8) (oi := { dst := some 55, op := Go.Op.load 32 (Go.Operand.tmp 54), type := 32, pos := "law.go:130", after := #[{ on := 7, ground := Go.Ground.data }, { on := 1, ground := Go.Ground.guard }], guard := some (1, true) }) (v := undef) rfl (by kernel_rfl) (by kernel_rfl) (by kernel_rfl) (fun _ _ _ h => h) (Or.inr ⟨by rfl, rfl⟩) (by assumption) ?restr9f8
            try simp only [Act.put, List.setIfInBounds_toArray, List.set_cons_zero, List.set_cons_succ]
            refine wpAnyH_take (i := 9) (oi := { dst := some 56, op := Go.Op.move (Go.Operand.tmp 16), type := 3, pos := "law.go:130", after := #[{ on := 1, ground := Go.Ground.guard }], guard := some (1, true) }) (v := undef) rfl (by kernel_rfl) (by kernel_rfl) (by kernel_rfl) (fun _ _ _ h => h) (Or.inr ⟨by rfl, rfl⟩) (by assumption) ?restr9f9
            try simp only [Act.put, List.setIfInBounds_toArray, List.set_cons_zero, List.set_cons_succ]
            refine wpAnyH_take (i := 10) (oi := { dst := some 57, op := Go.Op.indexAddr 32 (Go.Operand.tmp 55) (Go.Operand.tmp 56), type := 0, pos := "law.go:130", after := #[{ on := 8, ground := Go.Ground.data }, { on := 9, ground := Go.Ground.data }, { on := 1, ground := Go.Ground.guard }], guard := some (1, true) }) (v := undef) rfl (by kernel_rfl) (by kernel_rfl) (by kernel_rfl) (fun _ _ _ h => h) (Or.inr ⟨by rfl, rfl⟩) (by assumption) ?restr9f10
            try simp only [Act.put, List.setIfInBounds_toArray, List.set_cons_zero, List.set_cons_succ]
            refine wpAnyH_take (i := 11) (oi := { dst := some 58, op := Go.Op.load 34 (Go.Operand.tmp 57), type := 34, pos := "law.go:130", after := #[{ on := 10, ground := Go.Ground.data }, { on := 1, ground := Go.Ground.guard }], guard := some (1, true) }) (v := undef) rfl (by kernel_rfl) (by kernel_rfl) (by kernel_rfl) (fun _ _ _ h => h) (Or.inr ⟨by rfl, rfl⟩) (by assumption) ?restr9f11
            try simp only [Act.put, List.setIfInBounds_toArray, List.set_cons_zero, List.set_cons_succ]
            refine wpAnyH_take (i := 12) (oi := { dst := some 59, op := Go.Op.call { callee := Go.Callee.value (Go.Operand.func 16), args := #[Go.Operand.tmp 53, Go.Operand.tmp 58], argTypes := #[34, 34] }, type := 4, pos := "law.go:130", after := #[{ on := 6, ground := Go.Ground.data }, { on := 11, ground := Go.Ground.data }, { on := 1, ground := Go.Ground.chain }, { on := 1, ground := Go.Ground.guard }], guard := some (1, true) }) (v := undef) rfl (by kernel_rfl) (by kernel_rfl) (by kernel_rfl) (fun _ _ _ h => h) (Or.inr ⟨by rfl, rfl⟩) (by assumption) ?restr9f12
            try simp only [Act.put, List.setIfInBounds_toArray, List.set_cons_zero, List.set_cons_succ]
            refine wpAnyH_take (i := 13) (oi := { dst := some 60, op := Go.Op.pick (Go.Operand.tmp 48) (Go.Operand.tmp 59) (Go.Operand.const (Go.Value.bool false)), type := 4, pos := "law.go:130", after := #[{ on := 1, ground := Go.Ground.data }, { on := 12, ground := Go.Ground.data }], guard := none }) (v := ?vr9f13) rfl (by kernel_rfl) (by kernel_rfl) (by kernel_rfl) (fun _ _ _ h => h) (Or.inl ⟨by rfl, ?hyr9f13⟩) (by assumption) ?restr9f13
            case hyr9f13 => first | (intro w hSw; (try dsimp only at hSw); go_simp; done) | (intro w hSw; (try dsimp only at hSw); go_simp; with_reducible rfl)
            try simp only [Act.put, List.setIfInBounds_toArray, List.set_cons_zero, List.set_cons_succ]
            refine wpAnyH_take (i := 14) (oi := { dst := some 15, op := Go.Op.assign (Go.Operand.tmp 60), type := 4, pos := "law.go:130", after := #[{ on := 13, ground := Go.Ground.data }, { on := 12, ground := Go.Ground.chain }, { on := 0, ground := Go.Ground.phase }, { on := 1, ground := Go.Ground.phase }, { on := 2, ground := Go.Ground.phase }, { on := 3, ground := Go.Ground.phase }, { on := 4, ground := Go.Ground.phase }, { on := 5, ground := Go.Ground.phase }, { on := 6, ground := Go.Ground.phase }, { on := 7, ground := Go.Ground.phase }, { on := 8, ground := Go.Ground.phase }, { on := 9, ground := Go.Ground.phase }, { on := 10, ground := Go.Ground.phase }, { on := 11, ground := Go.Ground.phase }, { on := 12, ground := Go.Ground.phase }, { on := 13, ground := Go.Ground.phase }], guard := none }) (v := ?vr9f14) rfl (by kernel_rfl) (by kernel_rfl) (by kernel_rfl) (fun _ _ _ h => h) (Or.inl ⟨by rfl, ?hyr9f14⟩) (by assumption) ?restr9f14
            case hyr9f14 => first | (intro w hSw; (try dsimp only at hSw); go_simp; done) | (intro w hSw; (try dsimp only at hSw); go_simp; with_reducible rfl)
            try simp only [Act.put, List.setIfInBounds_toArray, List.set_cons_zero, List.set_cons_succ]
            refine wpAnyH_done (by kernel_rfl) ?_ _
            have hfin := hbl.trans ((kept10_end hHeld).mono hbl.size)
            clear hcall g0 g1 g2 g3 g4 g5 g6 g6' c0 c1 c2 c3 d0 d1 d2 d3
            go_wp2_with fail
            go_roundw
            case rel => exact ⟨i + 1, by omega, by omega, by go_num, by rw [Hnext.out], hfin⟩
            case measure => simp [intOf] <;> omega
        · obtain rfl : i = M := by omega
          have hE := hid (show N = i → eqB ((Node.kids X).take i) ((Node.kids Y).take i) = eqB (Node.kids X) (Node.kids Y) from fun e => absurd e (by omega))
          clear HKX HKY
          go_wp2_with fail
          go_meet
          exact ⟨_, rfl, hE.out, hbl⟩
      · obtain rfl : i = N := by omega
        have hE := hid (show i = M → eqB ((Node.kids X).take i) ((Node.kids Y).take i) = eqB (Node.kids X) (Node.kids Y) from fun e => by
          rw [List.take_of_length_le (by rw [← HN.out]; exact Nat.le_refl _), List.take_of_length_le (by rw [← HM.out]; omega)])
        clear HKX HKY
        by_cases h2 : i < M
        all_goals
          go_wp2_with fail
          go_meet
          exact ⟨_, rfl, hE.out, hbl⟩
  case rest =>
    obtain ⟨b, rfl, hb, hbl⟩ := hcut
    have Hb := hid hb
    clear hb HKX HKY
    go_upto_region 10 with fail
    go_cut [74] from 61 to 73 (fun s74 wx => s74 = .bool cc ∧ Below w9.heap.size w9 wx)
    case first =>
      obtain ⟨g0, g1, g2, g3, _, _, _, _, g4, g5, g6', g6, _⟩ := Hcell.out _ hbl
      by_cases hNM : N = M
      · by_cases hnum : Node.num X = Node.num Y
        · have hv := hid (show cc = false by rw [Hcc.out, hnum]; simp [hNM])
          have hnn : (Node.num X != Node.num Y) = false := by rw [hnum]; simp
          subst hNM
          clear hnum
          go_wp2_with fail
          go_meet
          exact ⟨by rw [hv.out], hbl⟩
        · have hv := hid (show cc = true by rw [Hcc.out]; simp [hnum])
          have hnn : (Node.num X != Node.num Y) = true := by simpa using hnum
          subst hNM
          clear hnum
          go_wp2_with fail
          go_meet
          exact ⟨by rw [hv.out], hbl⟩
      · have hv := hid (show cc = true by rw [Hcc.out]; simp [hNM])
        have hne : ((N : Int) != (M : Int)) = true := by rw [bne_iff_ne]; omega
        clear hNM
        go_wp2_with fail
        go_meet
        exact ⟨by rw [hv.out], hbl⟩
    case rest =>
      obtain ⟨rfl, hbl2⟩ := hcut
      go_upto_if 74 with fail
      go_cut [15] (fun s15 wx => s15 = .bool bxy ∧ Below w9.heap.size w9 wx)
      case first =>
        cases cc with
        | true =>
          have hv := hid (Hc1.out rfl)
          go_wp2_with fail
          go_meet
          exact ⟨by rw [hv.out], hbl2⟩
        | false =>
          have hv := hid ((Hb.out (Hc0.out rfl).2).trans (Hc0.out rfl).1)
          go_wp2_with fail
          go_meet
          exact ⟨by rw [hv.out], hbl2⟩
      case rest =>
        obtain ⟨rfl, hbl3⟩ := hcut
        cases bxz with
        | true =>
          have hzy : eqB Z Y = bxy := by rw [show Z = X from (eqB_iff.1 Hbxz.out.symm).symm, ← Hbxy.out]
          rw [hzy] at HZY
          clear hzy
          go_wp2_with fail
          refine wp_region_held_drew (S := (fun W => W.cell? ⟨w3.heap.size, 0, none⟩ = some (U (Node.num X)) ∧ W.cell? ⟨w3.heap.size, 1, none⟩ = some (.string (Node.bytes X)) ∧ W.cell? ⟨w3.heap.size, 2, none⟩ = some (.slice a2 (Node.nums X).length p2) ∧ W.cell? ⟨w3.heap.size, 3, none⟩ = some (.slice a N cap) ∧ W.cell? ⟨w5.heap.size, 0, none⟩ = some (U (Node.num Z)) ∧ W.cell? ⟨w5.heap.size, 1, none⟩ = some (.string (Node.bytes Z)) ∧ W.cell? ⟨w5.heap.size, 2, none⟩ = some (.slice e2 (Node.nums Z).length s2) ∧ W.cell? ⟨w5.heap.size, 3, none⟩ = some (.slice e3 L s3) ∧ W.cell? ⟨w7.heap.size, 0, none⟩ = some (U (Node.num Y)) ∧ W.cell? ⟨w7.heap.size, 1, none⟩ = some (.string (Node.bytes Y)) ∧ W.cell? ⟨w7.heap.size, 2, none⟩ = some (.slice b2 (Node.nums Y).length q2) ∧ W.cell? ⟨w7.heap.size, 3, none⟩ = some (.slice b3 M q3) ∧ Below w9.heap.size w9 W)) (by kernel_rfl) ?_ (fun hHeld => ?_)
          · exact Hcell.out _ (hbl3.trans (below_drewN _ _ 1))
          refine wpAnyH_take (i := 0) (oi := { dst := some 75, op := Go.Op.move (Go.Operand.tmp 7), type := 4, pos := "law.go:135", after := #[], guard := none }) (v := ?vz00) rfl (by kernel_rfl) (by kernel_rfl) (by kernel_rfl) (fun _ _ _ h => h) (Or.inl ⟨by rfl, ?hyz00⟩) (by assumption) ?restz00
          case hyz00 => first | (intro w hSw; (try dsimp only at hSw); go_simp; done) | (intro w hSw; (try dsimp only at hSw); go_simp; with_reducible rfl)
          try simp only [Act.put, List.setIfInBounds_toArray, List.set_cons_zero, List.set_cons_succ]
          refine wpAnyH_take (i := 1) (oi := { dst := some 76, op := Go.Op.move (Go.Operand.tmp 75), type := 4, pos := "law.go:135", after := #[{ on := 0, ground := Go.Ground.data }], guard := none }) (v := ?vz01) rfl (by kernel_rfl) (by kernel_rfl) (by kernel_rfl) (fun _ _ _ h => h) (Or.inl ⟨by rfl, ?hyz01⟩) (by assumption) ?restz01
          case hyz01 => first | (intro w hSw; (try dsimp only at hSw); go_simp; done) | (intro w hSw; (try dsimp only at hSw); go_simp; with_reducible rfl)
          try simp only [Act.put, List.setIfInBounds_toArray, List.set_cons_zero, List.set_cons_succ]
          refine wpAnyH_take (i := 2) (oi := { dst := some 77, op := Go.Op.load 34 (Go.Operand.tmp 10), type := 34, pos := "law.go:135", after := #[{ on := 1, ground := Go.Ground.guard }], guard := some (1, true) }) (v := ?vz02) rfl (by kernel_rfl) (by kernel_rfl) (by kernel_rfl) (fun _ _ _ h => h) (Or.inl ⟨by rfl, ?hyz02⟩) (by assumption) ?restz02
          case hyz02 => first | (intro w hSw; (try dsimp only at hSw); go_simp; done) | (intro w hSw; (try dsimp only at hSw); go_simp; with_reducible rfl)
          try simp only [Act.put, List.setIfInBounds_toArray, List.set_cons_zero, List.set_cons_succ]
          refine wpAnyH_take (i := 3) (oi := { dst := some 78, op := Go.Op.load 34 (Go.Operand.tmp 10), type := 34, pos := "law.go:135", after := #[{ on := 1, ground := Go.Ground.guard }], guard := some (1, true) }) (v := ?vz03) rfl (by kernel_rfl) (by kernel_rfl) (by kernel_rfl) (fun _ _ _ h => h) (Or.inl ⟨by rfl, ?hyz03⟩) (by assumption) ?restz03
          case hyz03 => first | (intro w hSw; (try dsimp only at hSw); go_simp; done) | (intro w hSw; (try dsimp only at hSw); go_simp; with_reducible rfl)
          try simp only [Act.put, List.setIfInBounds_toArray, List.set_cons_zero, List.set_cons_succ]
          refine wpAnyH_ready (rs := [4]) (by kernel_rfl) (by simp) ?_
          refine AllReadyH.cons (o := { dst := some 79, op := Go.Op.call { callee := Go.Callee.value (Go.Operand.func 16), args := #[Go.Operand.tmp 77, Go.Operand.tmp 78], argTypes := #[34, 34] }, type := 4, pos := "law.go:135", after := #[{ on := 2, ground := Go.Ground.data }, { on := 3, ground := Go.Ground.data }, { on := 1, ground := Go.Ground.chain }, { on := 1, ground := Go.Ground.guard }], guard := some (1, true) }) rfl (fun K hK => ?_) AllReadyH.nil
          go_simp
          ((refine (HXX.out _ (kept12_end hHeld)).mono ?_); rintro rz04 wz04 ⟨rfl, hbz04⟩)
          refine hK.out _ _ ?_ (fun hHeld => ?_)
          · exact kept12 hHeld hbz04
          clear hK K
          try simp only [Act.put, List.setIfInBounds_toArray, List.set_cons_zero, List.set_cons_succ]
          refine wpAnyH_take (i := 5) (oi := { dst := some 80, op := Go.Op.pick (Go.Operand.tmp 76) (Go.Operand.tmp 79) (Go.Operand.const (Go.Value.bool false)), type := 4, pos := "law.go:135", after := #[{ on := 1, ground := Go.Ground.data }, { on := 4, ground := Go.Ground.data }], guard := none }) (v := ?vz05) rfl (by kernel_rfl) (by kernel_rfl) (by kernel_rfl) (fun _ _ _ h => h) (Or.inl ⟨by rfl, ?hyz05⟩) (by assumption) ?restz05
          case hyz05 => first | (intro w hSw; (try dsimp only at hSw); go_simp; done) | (intro w hSw; (try dsimp only at hSw); go_simp; with_reducible rfl)
          try simp only [Act.put, List.setIfInBounds_toArray, List.set_cons_zero, List.set_cons_succ]
          refine wpAnyH_take (i := 6) (oi := { dst := some 81, op := Go.Op.move (Go.Operand.tmp 80), type := 4, pos := "law.go:135", after := #[{ on := 5, ground := Go.Ground.data }, { on := 4, ground := Go.Ground.chain }], guard := none }) (v := ?vz06) rfl (by kernel_rfl) (by kernel_rfl) (by kernel_rfl) (fun _ _ _ h => h) (Or.inl ⟨by rfl, ?hyz06⟩) (by assumption) ?restz06
          case hyz06 => first | (intro w hSw; (try dsimp only at hSw); go_simp; done) | (intro w hSw; (try dsimp only at hSw); go_simp; with_reducible rfl)
          try simp only [Act.put, List.setIfInBounds_toArray, List.set_cons_zero, List.set_cons_succ]
          refine wpAnyH_take (i := 7) (oi := { dst := some 82, op := Go.Op.load 34 (Go.Operand.tmp 10), type := 34, pos := "law.go:135", after := #[{ on := 6, ground := Go.Ground.guard }], guard := some (6, true) }) (v := ?vz07) rfl (by kernel_rfl) (by kernel_rfl) (by kernel_rfl) (fun _ _ _ h => h) (Or.inl ⟨by rfl, ?hyz07⟩) (by assumption) ?restz07
          case hyz07 => first | (intro w hSw; (try dsimp only at hSw); go_simp; done) | (intro w hSw; (try dsimp only at hSw); go_simp; with_reducible rfl)
          try simp only [Act.put, List.setIfInBounds_toArray, List.set_cons_zero, List.set_cons_succ]
          refine wpAnyH_take (i := 8) (oi := { dst := some 83, op := Go.Op.load 34 (Go.Operand.tmp 13), type := 34, pos := "law.go:135", after := #[{ on := 6, ground := Go.Ground.guard }], guard := some (6, true) }) (v := ?vz08) rfl (by kernel_rfl) (by kernel_rfl) (by kernel_rfl) (fun _ _ _ h => h) (Or.inl ⟨by rfl, ?hyz08⟩) (by assumption) ?restz08
          case hyz08 => first | (intro w hSw; (try dsimp only at hSw); go_simp; done) | (intro w hSw; (try dsimp only at hSw); go_simp; with_reducible rfl)
          try simp only [Act.put, List.setIfInBounds_toArray, List.set_cons_zero, List.set_cons_succ]
          refine wpAnyH_take (i := 10) (oi := { dst := some 85, op := Go.Op.load 34 (Go.Operand.tmp 13), type := 34, pos := "law.go:135", after := #[{ on := 6, ground := Go.Ground.guard }], guard := some (6, true) }) (v := ?vz010) rfl (by kernel_rfl) (by kernel_rfl) (by kernel_rfl) (fun _ _ _ h => h) (Or.inl ⟨by rfl, ?hyz010⟩) (by assumption) ?restz010
          case hyz010 => first | (intro w hSw; (try dsimp only at hSw); go_simp; done) | (intro w hSw; (try dsimp only at hSw); go_simp; with_reducible rfl)
          try simp only [Act.put, List.setIfInBounds_toArray, List.set_cons_zero, List.set_cons_succ]
          refine wpAnyH_take (i := 11) (oi := { dst := some 86, op := Go.Op.load 34 (Go.Operand.tmp 10), type := 34, pos := "law.go:135", after := #[{ on := 6, ground := Go.Ground.guard }], guard := some (6, true) }) (v := ?vz011) rfl (by kernel_rfl) (by kernel_rfl) (by kernel_rfl) (fun _ _ _ h => h) (Or.inl ⟨by rfl, ?hyz011⟩) (by assumption) ?restz011
          case hyz011 => first | (intro w hSw; (try dsimp only at hSw); go_simp; done) | (intro w hSw; (try dsimp only at hSw); go_simp; with_reducible rfl)
          try simp only [Act.put, List.setIfInBounds_toArray, List.set_cons_zero, List.set_cons_succ]
          refine wpAnyH_ready (rs := [9]) (by kernel_rfl) (by simp) ?_
          refine AllReadyH.cons (o := { dst := some 84, op := Go.Op.call { callee := Go.Callee.value (Go.Operand.func 16), args := #[Go.Operand.tmp 82, Go.Operand.tmp 83], argTypes := #[34, 34] }, type := 4, pos := "law.go:135", after := #[{ on := 7, ground := Go.Ground.data }, { on := 8, ground := Go.Ground.data }, { on := 6, ground := Go.Ground.chain }, { on := 6, ground := Go.Ground.guard }], guard := some (6, true) }) rfl (fun K hK => ?_) AllReadyH.nil
          go_simp
          ((refine (HXZ.out _ (kept12_end hHeld)).mono ?_); rintro rz09 wz09 ⟨rfl, hbz09⟩)
          refine hK.out _ _ ?_ (fun hHeld => ?_)
          · exact kept12 hHeld hbz09
          clear hK K
          try simp only [Act.put, List.setIfInBounds_toArray, List.set_cons_zero, List.set_cons_succ]
          refine wpAnyH_ready (rs := [12]) (by kernel_rfl) (by simp) ?_
          refine AllReadyH.cons (o := { dst := some 87, op := Go.Op.call { callee := Go.Callee.value (Go.Operand.func 16), args := #[Go.Operand.tmp 85, Go.Operand.tmp 86], argTypes := #[34, 34] }, type := 4, pos := "law.go:135", after := #[{ on := 10, ground := Go.Ground.data }, { on := 11, ground := Go.Ground.data }, { on := 9, ground := Go.Ground.chain }, { on := 6, ground := Go.Ground.guard }], guard := some (6, true) }) rfl (fun K hK => ?_) AllReadyH.nil
          go_simp
          ((refine (HZX.out _ (kept12_end hHeld)).mono ?_); rintro rz012 wz012 ⟨rfl, hbz012⟩)
          refine hK.out _ _ ?_ (fun hHeld => ?_)
          · exact kept12 hHeld hbz012
          clear hK K
          try simp only [Act.put, List.setIfInBounds_toArray, List.set_cons_zero, List.set_cons_succ]
          refine wpAnyH_take (i := 13) (oi := { dst := some 88, op := Go.Op.binOp Go.BinOp.eql 4 (Go.Operand.tmp 84) (Go.Operand.tmp 87) 4, type := 4, pos := "law.go:135", after := #[{ on := 9, ground := Go.Ground.data }, { on := 12, ground := Go.Ground.data }, { on := 6, ground := Go.Ground.guard }], guard := some (6, true) }) (v := ?vz013) rfl (by kernel_rfl) (by kernel_rfl) (by kernel_rfl) (fun _ _ _ h => h) (Or.inl ⟨by rfl, ?hyz013⟩) (by assumption) ?restz013
          case hyz013 => first | (intro w hSw; (try dsimp only at hSw); go_simp; done) | (intro w hSw; (try dsimp only at hSw); go_simp; with_reducible rfl)
          try simp only [Act.put, List.setIfInBounds_toArray, List.set_cons_zero, List.set_cons_succ]
          refine wpAnyH_take (i := 14) (oi := { dst := some 89, op := Go.Op.pick (Go.Operand.tmp 81) (Go.Operand.tmp 88) (Go.Operand.const (Go.Value.bool false)), type := 4, pos := "law.go:135", after := #[{ on := 6, ground := Go.Ground.data }, { on := 13, ground := Go.Ground.data }], guard := none }) (v := ?vz014) rfl (by kernel_rfl) (by kernel_rfl) (by kernel_rfl) (fun _ _ _ h => h) (Or.inl ⟨by rfl, ?hyz014⟩) (by assumption) ?restz014
          case hyz014 => first | (intro w hSw; (try dsimp only at hSw); go_simp; done) | (intro w hSw; (try dsimp only at hSw); go_simp; with_reducible rfl)
          try simp only [Act.put, List.setIfInBounds_toArray, List.set_cons_zero, List.set_cons_succ]
          refine wpAnyH_take (i := 15) (oi := { dst := some 90, op := Go.Op.move (Go.Operand.tmp 89), type := 4, pos := "law.go:135", after := #[{ on := 14, ground := Go.Ground.data }, { on := 12, ground := Go.Ground.chain }], guard := none }) (v := ?vz015) rfl (by kernel_rfl) (by kernel_rfl) (by kernel_rfl) (fun _ _ _ h => h) (Or.inl ⟨by rfl, ?hyz015⟩) (by assumption) ?restz015
          case hyz015 => first | (intro w hSw; (try dsimp only at hSw); go_simp; done) | (intro w hSw; (try dsimp only at hSw); go_simp; with_reducible rfl)
          try simp only [Act.put, List.setIfInBounds_toArray, List.set_cons_zero, List.set_cons_succ]
          refine wpAnyH_take (i := 16) (oi := { dst := some 91, op := Go.Op.load 34 (Go.Operand.tmp 10), type := 34, pos := "law.go:135", after := #[{ on := 15, ground := Go.Ground.guard }], guard := some (15, true) }) (v := ?vz016) rfl (by kernel_rfl) (by kernel_rfl) (by kernel_rfl) (fun _ _ _ h => h) (Or.inl ⟨by rfl, ?hyz016⟩) (by assumption) ?restz016
          case hyz016 => first | (intro w hSw; (try dsimp only at hSw); go_simp; done) | (intro w hSw; (try dsimp only at hSw); go_simp; with_reducible rfl)
          try simp only [Act.put, List.setIfInBounds_toArray, List.set_cons_zero, List.set_cons_succ]
          refine wpAnyH_take (i := 17) (oi := { dst := some 92, op := Go.Op.load 34 (Go.Operand.tmp 14), type := 34, pos := "law.go:135", after := #[{ on := 15, ground := Go.Ground.guard }], guard := some (15, true) }) (v := ?vz017) rfl (by kernel_rfl) (by kernel_rfl) (by kernel_rfl) (fun _ _ _ h => h) (Or.inl ⟨by rfl, ?hyz017⟩) (by assumption) ?restz017
          case hyz017 => first | (intro w hSw; (try dsimp only at hSw); go_simp; done) | (intro w hSw; (try dsimp only at hSw); go_simp; with_reducible rfl)
          try simp only [Act.put, List.setIfInBounds_toArray, List.set_cons_zero, List.set_cons_succ]
          refine wpAnyH_take (i := 19) (oi := { dst := some 94, op := Go.Op.move (Go.Operand.tmp 15), type := 4, pos := "law.go:135", after := #[{ on := 15, ground := Go.Ground.guard }], guard := some (15, true) }) (v := ?vz019) rfl (by kernel_rfl) (by kernel_rfl) (by kernel_rfl) (fun _ _ _ h => h) (Or.inl ⟨by rfl, ?hyz019⟩) (by assumption) ?restz019
          case hyz019 => first | (intro w hSw; (try dsimp only at hSw); go_simp; done) | (intro w hSw; (try dsimp only at hSw); go_simp; with_reducible rfl)
          try simp only [Act.put, List.setIfInBounds_toArray, List.set_cons_zero, List.set_cons_succ]
          refine wpAnyH_ready (rs := [18]) (by kernel_rfl) (by simp) ?_
          refine AllReadyH.cons (o := { dst := some 93, op := Go.Op.call { callee := Go.Callee.value (Go.Operand.func 16), args := #[Go.Operand.tmp 91, Go.Operand.tmp 92], argTypes := #[34, 34] }, type := 4, pos := "law.go:135", after := #[{ on := 16, ground := Go.Ground.data }, { on := 17, ground := Go.Ground.data }, { on := 15, ground := Go.Ground.chain }, { on := 15, ground := Go.Ground.guard }], guard := some (15, true) }) rfl (fun K hK => ?_) AllReadyH.nil
          go_simp
          ((refine (HXY.out _ (kept12_end hHeld)).mono ?_); rintro rz018 wz018 ⟨rfl, hbz018⟩)
          refine hK.out _ _ ?_ (fun hHeld => ?_)
          · exact kept12 hHeld hbz018
          clear hK K
          try simp only [Act.put, List.setIfInBounds_toArray, List.set_cons_zero, List.set_cons_succ]
          refine wpAnyH_take (i := 20) (oi := { dst := some 95, op := Go.Op.binOp Go.BinOp.eql 4 (Go.Operand.tmp 93) (Go.Operand.tmp 94) 4, type := 4, pos := "law.go:135", after := #[{ on := 18, ground := Go.Ground.data }, { on := 19, ground := Go.Ground.data }, { on := 15, ground := Go.Ground.guard }], guard := some (15, true) }) (v := ?vz020) rfl (by kernel_rfl) (by kernel_rfl) (by kernel_rfl) (fun _ _ _ h => h) (Or.inl ⟨by rfl, ?hyz020⟩) (by assumption) ?restz020
          case hyz020 => first | (intro w hSw; (try dsimp only at hSw); go_simp; done) | (intro w hSw; (try dsimp only at hSw); go_simp; with_reducible rfl)
          try simp only [Act.put, List.setIfInBounds_toArray, List.set_cons_zero, List.set_cons_succ]
          refine wpAnyH_take (i := 21) (oi := { dst := some 96, op := Go.Op.pick (Go.Operand.tmp 90) (Go.Operand.tmp 95) (Go.Operand.const (Go.Value.bool false)), type := 4, pos := "law.go:135", after := #[{ on := 15, ground := Go.Ground.data }, { on := 20, ground := Go.Ground.data }], guard := none }) (v := ?vz021) rfl (by kernel_rfl) (by kernel_rfl) (by kernel_rfl) (fun _ _ _ h => h) (Or.inl ⟨by rfl, ?hyz021⟩) (by assumption) ?restz021
          case hyz021 => first | (intro w hSw; (try dsimp only at hSw); go_simp; done) | (intro w hSw; (try dsimp only at hSw); go_simp; with_reducible rfl)
          try simp only [Act.put, List.setIfInBounds_toArray, List.set_cons_zero, List.set_cons_succ]
          refine wpAnyH_take (i := 22) (oi := { dst := some 97, op := Go.Op.move (Go.Operand.tmp 96), type := 4, pos := "law.go:135", after := #[{ on := 21, ground := Go.Ground.data }, { on := 18, ground := Go.Ground.chain }], guard := none }) (v := ?vz022) rfl (by kernel_rfl) (by kernel_rfl) (by kernel_rfl) (fun _ _ _ h => h) (Or.inl ⟨by rfl, ?hyz022⟩) (by assumption) ?restz022
          case hyz022 => first | (intro w hSw; (try dsimp only at hSw); go_simp; done) | (intro w hSw; (try dsimp only at hSw); go_simp; with_reducible rfl)
          try simp only [Act.put, List.setIfInBounds_toArray, List.set_cons_zero, List.set_cons_succ]
          refine wpAnyH_take (i := 23) (oi := { dst := some 98, op := Go.Op.load 34 (Go.Operand.tmp 10), type := 34, pos := "law.go:135", after := #[{ on := 22, ground := Go.Ground.guard }], guard := some (22, true) }) (v := ?vz023) rfl (by kernel_rfl) (by kernel_rfl) (by kernel_rfl) (fun _ _ _ h => h) (Or.inl ⟨by rfl, ?hyz023⟩) (by assumption) ?restz023
          case hyz023 => first | (intro w hSw; (try dsimp only at hSw); go_simp; done) | (intro w hSw; (try dsimp only at hSw); go_simp; with_reducible rfl)
          try simp only [Act.put, List.setIfInBounds_toArray, List.set_cons_zero, List.set_cons_succ]
          refine wpAnyH_take (i := 24) (oi := { dst := some 99, op := Go.Op.load 34 (Go.Operand.tmp 13), type := 34, pos := "law.go:135", after := #[{ on := 22, ground := Go.Ground.guard }], guard := some (22, true) }) (v := ?vz024) rfl (by kernel_rfl) (by kernel_rfl) (by kernel_rfl) (fun _ _ _ h => h) (Or.inl ⟨by rfl, ?hyz024⟩) (by assumption) ?restz024
          case hyz024 => first | (intro w hSw; (try dsimp only at hSw); go_simp; done) | (intro w hSw; (try dsimp only at hSw); go_simp; with_reducible rfl)
          try simp only [Act.put, List.setIfInBounds_toArray, List.set_cons_zero, List.set_cons_succ]
          refine wpAnyH_ready (rs := [25]) (by kernel_rfl) (by simp) ?_
          refine AllReadyH.cons (o := { dst := some 100, op := Go.Op.call { callee := Go.Callee.value (Go.Operand.func 16), args := #[Go.Operand.tmp 98, Go.Operand.tmp 99], argTypes := #[34, 34] }, type := 4, pos := "law.go:135", after := #[{ on := 23, ground := Go.Ground.data }, { on := 24, ground := Go.Ground.data }, { on := 22, ground := Go.Ground.chain }, { on := 22, ground := Go.Ground.guard }], guard := some (22, true) }) rfl (fun K hK => ?_) AllReadyH.nil
          go_simp
          ((refine (HXZ.out _ (kept12_end hHeld)).mono ?_); rintro rz025 wz025 ⟨rfl, hbz025⟩)
          refine hK.out _ _ ?_ (fun hHeld => ?_)
          · exact kept12 hHeld hbz025
          clear hK K
          try simp only [Act.put, List.setIfInBounds_toArray, List.set_cons_zero, List.set_cons_succ]
          refine wpAnyH_take (i := 26) (oi := { dst := some 101, op := Go.Op.unOp Go.UnOp.not 4 (Go.Operand.tmp 100), type := 4, pos := "law.go:135", after := #[{ on := 25, ground := Go.Ground.data }, { on := 22, ground := Go.Ground.guard }], guard := some (22, true) }) (v := ?vz026) rfl (by kernel_rfl) (by kernel_rfl) (by kernel_rfl) (fun _ _ _ h => h) (Or.inl ⟨by rfl, ?hyz026⟩) (by assumption) ?restz026
          case hyz026 => first | (intro w hSw; (try dsimp only at hSw); go_simp; done) | (intro w hSw; (try dsimp only at hSw); go_simp; with_reducible rfl)
          try simp only [Act.put, List.setIfInBounds_toArray, List.set_cons_zero, List.set_cons_succ]
          refine wpAnyH_take (i := 27) (oi := { dst := some 102, op := Go.Op.move (Go.Operand.tmp 101), type := 4, pos := "law.go:135", after := #[{ on := 26, ground := Go.Ground.data }, { on := 25, ground := Go.Ground.chain }, { on := 22, ground := Go.Ground.guard }], guard := some (22, true) }) (v := ?vz027) rfl (by kernel_rfl) (by kernel_rfl) (by kernel_rfl) (fun _ _ _ h => h) (Or.inl ⟨by rfl, ?hyz027⟩) (by assumption) ?restz027
          case hyz027 => first | (intro w hSw; (try dsimp only at hSw); go_simp; done) | (intro w hSw; (try dsimp only at hSw); go_simp; with_reducible rfl)
          try simp only [Act.put, List.setIfInBounds_toArray, List.set_cons_zero, List.set_cons_succ]
          refine wpAnyH_take (i := 28) (oi := { dst := some 103, op := Go.Op.load 34 (Go.Operand.tmp 13), type := 34, pos := "law.go:135", after := #[{ on := 27, ground := Go.Ground.guard }], guard := some (27, false) }) (v := ?vz028) rfl (by kernel_rfl) (by kernel_rfl) (by kernel_rfl) (fun _ _ _ h => h) (Or.inl ⟨by rfl, ?hyz028⟩) (by assumption) ?restz028
          case hyz028 => first | (intro w hSw; (try dsimp only at hSw); go_simp; done) | (intro w hSw; (try dsimp only at hSw); go_simp; with_reducible rfl)
          try simp only [Act.put, List.setIfInBounds_toArray, List.set_cons_zero, List.set_cons_succ]
          refine wpAnyH_take (i := 29) (oi := { dst := some 104, op := Go.Op.load 34 (Go.Operand.tmp 14), type := 34, pos := "law.go:135", after := #[{ on := 27, ground := Go.Ground.guard }], guard := some (27, false) }) (v := ?vz029) rfl (by kernel_rfl) (by kernel_rfl) (by kernel_rfl) (fun _ _ _ h => h) (Or.inl ⟨by rfl, ?hyz029⟩) (by assumption) ?restz029
          case hyz029 => first | (intro w hSw; (try dsimp only at hSw); go_simp; done) | (intro w hSw; (try dsimp only at hSw); go_simp; with_reducible rfl)
          try simp only [Act.put, List.setIfInBounds_toArray, List.set_cons_zero, List.set_cons_succ]
          refine wpAnyH_take (i := 31) (oi := { dst := some 106, op := Go.Op.move (Go.Operand.tmp 15), type := 4, pos := "law.go:135", after := #[{ on := 27, ground := Go.Ground.guard }], guard := some (27, false) }) (v := ?vz031) rfl (by kernel_rfl) (by kernel_rfl) (by kernel_rfl) (fun _ _ _ h => h) (Or.inl ⟨by rfl, ?hyz031⟩) (by assumption) ?restz031
          case hyz031 => first | (intro w hSw; (try dsimp only at hSw); go_simp; done) | (intro w hSw; (try dsimp only at hSw); go_simp; with_reducible rfl)
          try simp only [Act.put, List.setIfInBounds_toArray, List.set_cons_zero, List.set_cons_succ]
          refine wpAnyH_ready (rs := [30]) (by kernel_rfl) (by simp) ?_
          refine AllReadyH.cons (o := { dst := some 105, op := Go.Op.call { callee := Go.Callee.value (Go.Operand.func 16), args := #[Go.Operand.tmp 103, Go.Operand.tmp 104], argTypes := #[34, 34] }, type := 4, pos := "law.go:135", after := #[{ on := 28, ground := Go.Ground.data }, { on := 29, ground := Go.Ground.data }, { on := 27, ground := Go.Ground.chain }, { on := 27, ground := Go.Ground.guard }], guard := some (27, false) }) rfl (fun K hK => ?_) AllReadyH.nil
          go_simp
          ((refine (HZY.out _ (kept12_end hHeld)).mono ?_); rintro rz030 wz030 ⟨rfl, hbz030⟩)
          refine hK.out _ _ ?_ (fun hHeld => ?_)
          · exact kept12 hHeld hbz030
          clear hK K
          try simp only [Act.put, List.setIfInBounds_toArray, List.set_cons_zero, List.set_cons_succ]
          refine wpAnyH_take (i := 32) (oi := { dst := some 107, op := Go.Op.binOp Go.BinOp.eql 4 (Go.Operand.tmp 105) (Go.Operand.tmp 106) 4, type := 4, pos := "law.go:135", after := #[{ on := 30, ground := Go.Ground.data }, { on := 31, ground := Go.Ground.data }, { on := 27, ground := Go.Ground.guard }], guard := some (27, false) }) (v := ?vz032) rfl (by kernel_rfl) (by kernel_rfl) (by kernel_rfl) (fun _ _ _ h => h) (Or.inl ⟨by rfl, ?hyz032⟩) (by assumption) ?restz032
          case hyz032 => first | (intro w hSw; (try dsimp only at hSw); go_simp; done) | (intro w hSw; (try dsimp only at hSw); go_simp; with_reducible rfl)
          try simp only [Act.put, List.setIfInBounds_toArray, List.set_cons_zero, List.set_cons_succ]
          refine wpAnyH_take (i := 33) (oi := { dst := some 108, op := Go.Op.pick (Go.Operand.tmp 102) (Go.Operand.const (Go.Value.bool true)) (Go.Operand.tmp 107), type := 4, pos := "law.go:135", after := #[{ on := 27, ground := Go.Ground.data }, { on := 32, ground := Go.Ground.data }, { on := 22, ground := Go.Ground.guard }], guard := some (22, true) }) (v := ?vz033) rfl (by kernel_rfl) (by kernel_rfl) (by kernel_rfl) (fun _ _ _ h => h) (Or.inl ⟨by rfl, ?hyz033⟩) (by assumption) ?restz033
          case hyz033 => first | (intro w hSw; (try dsimp only at hSw); go_simp; done) | (intro w hSw; (try dsimp only at hSw); go_simp; with_reducible rfl)
          try simp only [Act.put, List.setIfInBounds_toArray, List.set_cons_zero, List.set_cons_succ]
          refine wpAnyH_take (i := 34) (oi := { dst := some 109, op := Go.Op.pick (Go.Operand.tmp 97) (Go.Operand.tmp 108) (Go.Operand.const (Go.Value.bool false)), type := 4, pos := "law.go:135", after := #[{ on := 22, ground := Go.Ground.data }, { on := 33, ground := Go.Ground.data }], guard := none }) (v := ?vz034) rfl (by kernel_rfl) (by kernel_rfl) (by kernel_rfl) (fun _ _ _ h => h) (Or.inl ⟨by rfl, ?hyz034⟩) (by assumption) ?restz034
          case hyz034 => first | (intro w hSw; (try dsimp only at hSw); go_simp; done) | (intro w hSw; (try dsimp only at hSw); go_simp; with_reducible rfl)
          try simp only [Act.put, List.setIfInBounds_toArray, List.set_cons_zero, List.set_cons_succ]
          refine wpAnyH_take (i := 35) (oi := { dst := some 6, op := Go.Op.assign (Go.Operand.tmp 109), type := 4, pos := "law.go:135", after := #[{ on := 34, ground := Go.Ground.data }, { on := 30, ground := Go.Ground.chain }, { on := 0, ground := Go.Ground.phase }, { on := 1, ground := Go.Ground.phase }, { on := 2, ground := Go.Ground.phase }, { on := 3, ground := Go.Ground.phase }, { on := 4, ground := Go.Ground.phase }, { on := 5, ground := Go.Ground.phase }, { on := 6, ground := Go.Ground.phase }, { on := 7, ground := Go.Ground.phase }, { on := 8, ground := Go.Ground.phase }, { on := 9, ground := Go.Ground.phase }, { on := 10, ground := Go.Ground.phase }, { on := 11, ground := Go.Ground.phase }, { on := 12, ground := Go.Ground.phase }, { on := 13, ground := Go.Ground.phase }, { on := 14, ground := Go.Ground.phase }, { on := 15, ground := Go.Ground.phase }, { on := 16, ground := Go.Ground.phase }, { on := 17, ground := Go.Ground.phase }, { on := 18, ground := Go.Ground.phase }, { on := 19, ground := Go.Ground.phase }, { on := 20, ground := Go.Ground.phase }, { on := 21, ground := Go.Ground.phase }, { on := 22, ground := Go.Ground.phase }, { on := 23, ground := Go.Ground.phase }, { on := 24, ground := Go.Ground.phase }, { on := 25, ground := Go.Ground.phase }, { on := 26, ground := Go.Ground.phase }, { on := 27, ground := Go.Ground.phase }, { on := 28, ground := Go.Ground.phase }, { on := 29, ground := Go.Ground.phase }, { on := 30, ground := Go.Ground.phase }, { on := 31, ground := Go.Ground.phase }, { on := 32, ground := Go.Ground.phase }, { on := 33, ground := Go.Ground.phase }, { on := 34, ground := Go.Ground.phase }], guard := none }) (v := ?vz035) rfl (by kernel_rfl) (by kernel_rfl) (by kernel_rfl) (fun _ _ _ h => h) (Or.inl ⟨by rfl, ?hyz035⟩) (by assumption) ?restz035
          case hyz035 => first | (intro w hSw; (try dsimp only at hSw); go_simp; done) | (intro w hSw; (try dsimp only at hSw); go_simp; with_reducible rfl)
          try simp only [Act.put, List.setIfInBounds_toArray, List.set_cons_zero, List.set_cons_succ]
          refine wpAnyH_done (by kernel_rfl) ?_ _
          have hfin := via Hb9.out (kept12_end hHeld)
          go_wp2_with fail
          go_returns
          exact ⟨rfl, hfin⟩
        | false =>
          go_wp2_with fail
          refine wp_region_held_drew (S := (fun W => W.cell? ⟨w3.heap.size, 0, none⟩ = some (U (Node.num X)) ∧ W.cell? ⟨w3.heap.size, 1, none⟩ = some (.string (Node.bytes X)) ∧ W.cell? ⟨w3.heap.size, 2, none⟩ = some (.slice a2 (Node.nums X).length p2) ∧ W.cell? ⟨w3.heap.size, 3, none⟩ = some (.slice a N cap) ∧ W.cell? ⟨w5.heap.size, 0, none⟩ = some (U (Node.num Z)) ∧ W.cell? ⟨w5.heap.size, 1, none⟩ = some (.string (Node.bytes Z)) ∧ W.cell? ⟨w5.heap.size, 2, none⟩ = some (.slice e2 (Node.nums Z).length s2) ∧ W.cell? ⟨w5.heap.size, 3, none⟩ = some (.slice e3 L s3) ∧ W.cell? ⟨w7.heap.size, 0, none⟩ = some (U (Node.num Y)) ∧ W.cell? ⟨w7.heap.size, 1, none⟩ = some (.string (Node.bytes Y)) ∧ W.cell? ⟨w7.heap.size, 2, none⟩ = some (.slice b2 (Node.nums Y).length q2) ∧ W.cell? ⟨w7.heap.size, 3, none⟩ = some (.slice b3 M q3) ∧ Below w9.heap.size w9 W)) (by kernel_rfl) ?_ (fun hHeld => ?_)
          · exact Hcell.out _ (hbl3.trans (below_drewN _ _ 1))
          refine wpAnyH_take (i := 0) (oi := { dst := some 75, op := Go.Op.move (Go.Operand.tmp 7), type := 4, pos := "law.go:135", after := #[], guard := none }) (v := ?vz10) rfl (by kernel_rfl) (by kernel_rfl) (by kernel_rfl) (fun _ _ _ h => h) (Or.inl ⟨by rfl, ?hyz10⟩) (by assumption) ?restz10
          case hyz10 => first | (intro w hSw; (try dsimp only at hSw); go_simp; done) | (intro w hSw; (try dsimp only at hSw); go_simp; with_reducible rfl)
          try simp only [Act.put, List.setIfInBounds_toArray, List.set_cons_zero, List.set_cons_succ]
          refine wpAnyH_take (i := 1) (oi := { dst := some 76, op := Go.Op.move (Go.Operand.tmp 75), type := 4, pos := "law.go:135", after := #[{ on := 0, ground := Go.Ground.data }], guard := none }) (v := ?vz11) rfl (by kernel_rfl) (by kernel_rfl) (by kernel_rfl) (fun _ _ _ h => h) (Or.inl ⟨by rfl, ?hyz11⟩) (by assumption) ?restz11
          case hyz11 => first | (intro w hSw; (try dsimp only at hSw); go_simp; done) | (intro w hSw; (try dsimp only at hSw); go_simp; with_reducible rfl)
          try simp only [Act.put, List.setIfInBounds_toArray, List.set_cons_zero, List.set_cons_succ]
          refine wpAnyH_take (i := 2) (oi := { dst := some 77, op := Go.Op.load 34 (Go.Operand.tmp 10), type := 34, pos := "law.go:135", after := #[{ on := 1, ground := Go.Ground.guard }], guard := some (1, true) }) (v := ?vz12) rfl (by kernel_rfl) (by kernel_rfl) (by kernel_rfl) (fun _ _ _ h => h) (Or.inl ⟨by rfl, ?hyz12⟩) (by assumption) ?restz12
          case hyz12 => first | (intro w hSw; (try dsimp only at hSw); go_simp; done) | (intro w hSw; (try dsimp only at hSw); go_simp; with_reducible rfl)
          try simp only [Act.put, List.setIfInBounds_toArray, List.set_cons_zero, List.set_cons_succ]
          refine wpAnyH_take (i := 3) (oi := { dst := some 78, op := Go.Op.load 34 (Go.Operand.tmp 10), type := 34, pos := "law.go:135", after := #[{ on := 1, ground := Go.Ground.guard }], guard := some (1, true) }) (v := ?vz13) rfl (by kernel_rfl) (by kernel_rfl) (by kernel_rfl) (fun _ _ _ h => h) (Or.inl ⟨by rfl, ?hyz13⟩) (by assumption) ?restz13
          case hyz13 => first | (intro w hSw; (try dsimp only at hSw); go_simp; done) | (intro w hSw; (try dsimp only at hSw); go_simp; with_reducible rfl)
          try simp only [Act.put, List.setIfInBounds_toArray, List.set_cons_zero, List.set_cons_succ]
          refine wpAnyH_ready (rs := [4]) (by kernel_rfl) (by simp) ?_
          refine AllReadyH.cons (o := { dst := some 79, op := Go.Op.call { callee := Go.Callee.value (Go.Operand.func 16), args := #[Go.Operand.tmp 77, Go.Operand.tmp 78], argTypes := #[34, 34] }, type := 4, pos := "law.go:135", after := #[{ on := 2, ground := Go.Ground.data }, { on := 3, ground := Go.Ground.data }, { on := 1, ground := Go.Ground.chain }, { on := 1, ground := Go.Ground.guard }], guard := some (1, true) }) rfl (fun K hK => ?_) AllReadyH.nil
          go_simp
          ((refine (HXX.out _ (kept12_end hHeld)).mono ?_); rintro rz14 wz14 ⟨rfl, hbz14⟩)
          refine hK.out _ _ ?_ (fun hHeld => ?_)
          · exact kept12 hHeld hbz14
          clear hK K
          try simp only [Act.put, List.setIfInBounds_toArray, List.set_cons_zero, List.set_cons_succ]
          refine wpAnyH_take (i := 5) (oi := { dst := some 80, op := Go.Op.pick (Go.Operand.tmp 76) (Go.Operand.tmp 79) (Go.Operand.const (Go.Value.bool false)), type := 4, pos := "law.go:135", after := #[{ on := 1, ground := Go.Ground.data }, { on := 4, ground := Go.Ground.data }], guard := none }) (v := ?vz15) rfl (by kernel_rfl) (by kernel_rfl) (by kernel_rfl) (fun _ _ _ h => h) (Or.inl ⟨by rfl, ?hyz15⟩) (by assumption) ?restz15
          case hyz15 => first | (intro w hSw; (try dsimp only at hSw); go_simp; done) | (intro w hSw; (try dsimp only at hSw); go_simp; with_reducible rfl)
          try simp only [Act.put, List.setIfInBounds_toArray, List.set_cons_zero, List.set_cons_succ]
          refine wpAnyH_take (i := 6) (oi := { dst := some 81, op := Go.Op.move (Go.Operand.tmp 80), type := 4, pos := "law.go:135", after := #[{ on := 5, ground := Go.Ground.data }, { on := 4, ground := Go.Ground.chain }], guard := none }) (v := ?vz16) rfl (by kernel_rfl) (by kernel_rfl) (by kernel_rfl) (fun _ _ _ h => h) (Or.inl ⟨by rfl, ?hyz16⟩) (by assumption) ?restz16
          case hyz16 => first | (intro w hSw; (try dsimp only at hSw); go_simp; done) | (intro w hSw; (try dsimp only at hSw); go_simp; with_reducible rfl)
          try simp only [Act.put, List.setIfInBounds_toArray, List.set_cons_zero, List.set_cons_succ]
          refine wpAnyH_take (i := 7) (oi := { dst := some 82, op := Go.Op.load 34 (Go.Operand.tmp 10), type := 34, pos := "law.go:135", after := #[{ on := 6, ground := Go.Ground.guard }], guard := some (6, true) }) (v := ?vz17) rfl (by kernel_rfl) (by kernel_rfl) (by kernel_rfl) (fun _ _ _ h => h) (Or.inl ⟨by rfl, ?hyz17⟩) (by assumption) ?restz17
          case hyz17 => first | (intro w hSw; (try dsimp only at hSw); go_simp; done) | (intro w hSw; (try dsimp only at hSw); go_simp; with_reducible rfl)
          try simp only [Act.put, List.setIfInBounds_toArray, List.set_cons_zero, List.set_cons_succ]
          refine wpAnyH_take (i := 8) (oi := { dst := some 83, op := Go.Op.load 34 (Go.Operand.tmp 13), type := 34, pos := "law.go:135", after := #[{ on := 6, ground := Go.Ground.guard }], guard := some (6, true) }) (v := ?vz18) rfl (by kernel_rfl) (by kernel_rfl) (by kernel_rfl) (fun _ _ _ h => h) (Or.inl ⟨by rfl, ?hyz18⟩) (by assumption) ?restz18
          case hyz18 => first | (intro w hSw; (try dsimp only at hSw); go_simp; done) | (intro w hSw; (try dsimp only at hSw); go_simp; with_reducible rfl)
          try simp only [Act.put, List.setIfInBounds_toArray, List.set_cons_zero, List.set_cons_succ]
          refine wpAnyH_take (i := 10) (oi := { dst := some 85, op := Go.Op.load 34 (Go.Operand.tmp 13), type := 34, pos := "law.go:135", after := #[{ on := 6, ground := Go.Ground.guard }], guard := some (6, true) }) (v := ?vz110) rfl (by kernel_rfl) (by kernel_rfl) (by kernel_rfl) (fun _ _ _ h => h) (Or.inl ⟨by rfl, ?hyz110⟩) (by assumption) ?restz110
          case hyz110 => first | (intro w hSw; (try dsimp only at hSw); go_simp; done) | (intro w hSw; (try dsimp only at hSw); go_simp; with_reducible rfl)
          try simp only [Act.put, List.setIfInBounds_toArray, List.set_cons_zero, List.set_cons_succ]
          refine wpAnyH_take (i := 11) (oi := { dst := some 86, op := Go.Op.load 34 (Go.Operand.tmp 10), type := 34, pos := "law.go:135", after := #[{ on := 6, ground := Go.Ground.guard }], guard := some (6, true) }) (v := ?vz111) rfl (by kernel_rfl) (by kernel_rfl) (by kernel_rfl) (fun _ _ _ h => h) (Or.inl ⟨by rfl, ?hyz111⟩) (by assumption) ?restz111
          case hyz111 => first | (intro w hSw; (try dsimp only at hSw); go_simp; done) | (intro w hSw; (try dsimp only at hSw); go_simp; with_reducible rfl)
          try simp only [Act.put, List.setIfInBounds_toArray, List.set_cons_zero, List.set_cons_succ]
          refine wpAnyH_ready (rs := [9]) (by kernel_rfl) (by simp) ?_
          refine AllReadyH.cons (o := { dst := some 84, op := Go.Op.call { callee := Go.Callee.value (Go.Operand.func 16), args := #[Go.Operand.tmp 82, Go.Operand.tmp 83], argTypes := #[34, 34] }, type := 4, pos := "law.go:135", after := #[{ on := 7, ground := Go.Ground.data }, { on := 8, ground := Go.Ground.data }, { on := 6, ground := Go.Ground.chain }, { on := 6, ground := Go.Ground.guard }], guard := some (6, true) }) rfl (fun K hK => ?_) AllReadyH.nil
          go_simp
          ((refine (HXZ.out _ (kept12_end hHeld)).mono ?_); rintro rz19 wz19 ⟨rfl, hbz19⟩)
          refine hK.out _ _ ?_ (fun hHeld => ?_)
          · exact kept12 hHeld hbz19
          clear hK K
          try simp only [Act.put, List.setIfInBounds_toArray, List.set_cons_zero, List.set_cons_succ]
          refine wpAnyH_ready (rs := [12]) (by kernel_rfl) (by simp) ?_
          refine AllReadyH.cons (o := { dst := some 87, op := Go.Op.call { callee := Go.Callee.value (Go.Operand.func 16), args := #[Go.Operand.tmp 85, Go.Operand.tmp 86], argTypes := #[34, 34] }, type := 4, pos := "law.go:135", after := #[{ on := 10, ground := Go.Ground.data }, { on := 11, ground := Go.Ground.data }, { on := 9, ground := Go.Ground.chain }, { on := 6, ground := Go.Ground.guard }], guard := some (6, true) }) rfl (fun K hK => ?_) AllReadyH.nil
          go_simp
          ((refine (HZX.out _ (kept12_end hHeld)).mono ?_); rintro rz112 wz112 ⟨rfl, hbz112⟩)
          refine hK.out _ _ ?_ (fun hHeld => ?_)
          · exact kept12 hHeld hbz112
          clear hK K
          try simp only [Act.put, List.setIfInBounds_toArray, List.set_cons_zero, List.set_cons_succ]
          refine wpAnyH_take (i := 13) (oi := { dst := some 88, op := Go.Op.binOp Go.BinOp.eql 4 (Go.Operand.tmp 84) (Go.Operand.tmp 87) 4, type := 4, pos := "law.go:135", after := #[{ on := 9, ground := Go.Ground.data }, { on := 12, ground := Go.Ground.data }, { on := 6, ground := Go.Ground.guard }], guard := some (6, true) }) (v := ?vz113) rfl (by kernel_rfl) (by kernel_rfl) (by kernel_rfl) (fun _ _ _ h => h) (Or.inl ⟨by rfl, ?hyz113⟩) (by assumption) ?restz113
          case hyz113 => first | (intro w hSw; (try dsimp only at hSw); go_simp; done) | (intro w hSw; (try dsimp only at hSw); go_simp; with_reducible rfl)
          try simp only [Act.put, List.setIfInBounds_toArray, List.set_cons_zero, List.set_cons_succ]
          refine wpAnyH_take (i := 14) (oi := { dst := some 89, op := Go.Op.pick (Go.Operand.tmp 81) (Go.Operand.tmp 88) (Go.Operand.const (Go.Value.bool false)), type := 4, pos := "law.go:135", after := #[{ on := 6, ground := Go.Ground.data }, { on := 13, ground := Go.Ground.data }], guard := none }) (v := ?vz114) rfl (by kernel_rfl) (by kernel_rfl) (by kernel_rfl) (fun _ _ _ h => h) (Or.inl ⟨by rfl, ?hyz114⟩) (by assumption) ?restz114
          case hyz114 => first | (intro w hSw; (try dsimp only at hSw); go_simp; done) | (intro w hSw; (try dsimp only at hSw); go_simp; with_reducible rfl)
          try simp only [Act.put, List.setIfInBounds_toArray, List.set_cons_zero, List.set_cons_succ]
          refine wpAnyH_take (i := 15) (oi := { dst := some 90, op := Go.Op.move (Go.Operand.tmp 89), type := 4, pos := "law.go:135", after := #[{ on := 14, ground := Go.Ground.data }, { on := 12, ground := Go.Ground.chain }], guard := none }) (v := ?vz115) rfl (by kernel_rfl) (by kernel_rfl) (by kernel_rfl) (fun _ _ _ h => h) (Or.inl ⟨by rfl, ?hyz115⟩) (by assumption) ?restz115
          case hyz115 => first | (intro w hSw; (try dsimp only at hSw); go_simp; done) | (intro w hSw; (try dsimp only at hSw); go_simp; with_reducible rfl)
          try simp only [Act.put, List.setIfInBounds_toArray, List.set_cons_zero, List.set_cons_succ]
          refine wpAnyH_take (i := 16) (oi := { dst := some 91, op := Go.Op.load 34 (Go.Operand.tmp 10), type := 34, pos := "law.go:135", after := #[{ on := 15, ground := Go.Ground.guard }], guard := some (15, true) }) (v := ?vz116) rfl (by kernel_rfl) (by kernel_rfl) (by kernel_rfl) (fun _ _ _ h => h) (Or.inl ⟨by rfl, ?hyz116⟩) (by assumption) ?restz116
          case hyz116 => first | (intro w hSw; (try dsimp only at hSw); go_simp; done) | (intro w hSw; (try dsimp only at hSw); go_simp; with_reducible rfl)
          try simp only [Act.put, List.setIfInBounds_toArray, List.set_cons_zero, List.set_cons_succ]
          refine wpAnyH_take (i := 17) (oi := { dst := some 92, op := Go.Op.load 34 (Go.Operand.tmp 14), type := 34, pos := "law.go:135", after := #[{ on := 15, ground := Go.Ground.guard }], guard := some (15, true) }) (v := ?vz117) rfl (by kernel_rfl) (by kernel_rfl) (by kernel_rfl) (fun _ _ _ h => h) (Or.inl ⟨by rfl, ?hyz117⟩) (by assumption) ?restz117
          case hyz117 => first | (intro w hSw; (try dsimp only at hSw); go_simp; done) | (intro w hSw; (try dsimp only at hSw); go_simp; with_reducible rfl)
          try simp only [Act.put, List.setIfInBounds_toArray, List.set_cons_zero, List.set_cons_succ]
          refine wpAnyH_take (i := 19) (oi := { dst := some 94, op := Go.Op.move (Go.Operand.tmp 15), type := 4, pos := "law.go:135", after := #[{ on := 15, ground := Go.Ground.guard }], guard := some (15, true) }) (v := ?vz119) rfl (by kernel_rfl) (by kernel_rfl) (by kernel_rfl) (fun _ _ _ h => h) (Or.inl ⟨by rfl, ?hyz119⟩) (by assumption) ?restz119
          case hyz119 => first | (intro w hSw; (try dsimp only at hSw); go_simp; done) | (intro w hSw; (try dsimp only at hSw); go_simp; with_reducible rfl)
          try simp only [Act.put, List.setIfInBounds_toArray, List.set_cons_zero, List.set_cons_succ]
          refine wpAnyH_ready (rs := [18]) (by kernel_rfl) (by simp) ?_
          refine AllReadyH.cons (o := { dst := some 93, op := Go.Op.call { callee := Go.Callee.value (Go.Operand.func 16), args := #[Go.Operand.tmp 91, Go.Operand.tmp 92], argTypes := #[34, 34] }, type := 4, pos := "law.go:135", after := #[{ on := 16, ground := Go.Ground.data }, { on := 17, ground := Go.Ground.data }, { on := 15, ground := Go.Ground.chain }, { on := 15, ground := Go.Ground.guard }], guard := some (15, true) }) rfl (fun K hK => ?_) AllReadyH.nil
          go_simp
          ((refine (HXY.out _ (kept12_end hHeld)).mono ?_); rintro rz118 wz118 ⟨rfl, hbz118⟩)
          refine hK.out _ _ ?_ (fun hHeld => ?_)
          · exact kept12 hHeld hbz118
          clear hK K
          try simp only [Act.put, List.setIfInBounds_toArray, List.set_cons_zero, List.set_cons_succ]
          refine wpAnyH_take (i := 20) (oi := { dst := some 95, op := Go.Op.binOp Go.BinOp.eql 4 (Go.Operand.tmp 93) (Go.Operand.tmp 94) 4, type := 4, pos := "law.go:135", after := #[{ on := 18, ground := Go.Ground.data }, { on := 19, ground := Go.Ground.data }, { on := 15, ground := Go.Ground.guard }], guard := some (15, true) }) (v := ?vz120) rfl (by kernel_rfl) (by kernel_rfl) (by kernel_rfl) (fun _ _ _ h => h) (Or.inl ⟨by rfl, ?hyz120⟩) (by assumption) ?restz120
          case hyz120 => first | (intro w hSw; (try dsimp only at hSw); go_simp; done) | (intro w hSw; (try dsimp only at hSw); go_simp; with_reducible rfl)
          try simp only [Act.put, List.setIfInBounds_toArray, List.set_cons_zero, List.set_cons_succ]
          refine wpAnyH_take (i := 21) (oi := { dst := some 96, op := Go.Op.pick (Go.Operand.tmp 90) (Go.Operand.tmp 95) (Go.Operand.const (Go.Value.bool false)), type := 4, pos := "law.go:135", after := #[{ on := 15, ground := Go.Ground.data }, { on := 20, ground := Go.Ground.data }], guard := none }) (v := ?vz121) rfl (by kernel_rfl) (by kernel_rfl) (by kernel_rfl) (fun _ _ _ h => h) (Or.inl ⟨by rfl, ?hyz121⟩) (by assumption) ?restz121
          case hyz121 => first | (intro w hSw; (try dsimp only at hSw); go_simp; done) | (intro w hSw; (try dsimp only at hSw); go_simp; with_reducible rfl)
          try simp only [Act.put, List.setIfInBounds_toArray, List.set_cons_zero, List.set_cons_succ]
          refine wpAnyH_take (i := 22) (oi := { dst := some 97, op := Go.Op.move (Go.Operand.tmp 96), type := 4, pos := "law.go:135", after := #[{ on := 21, ground := Go.Ground.data }, { on := 18, ground := Go.Ground.chain }], guard := none }) (v := ?vz122) rfl (by kernel_rfl) (by kernel_rfl) (by kernel_rfl) (fun _ _ _ h => h) (Or.inl ⟨by rfl, ?hyz122⟩) (by assumption) ?restz122
          case hyz122 => first | (intro w hSw; (try dsimp only at hSw); go_simp; done) | (intro w hSw; (try dsimp only at hSw); go_simp; with_reducible rfl)
          try simp only [Act.put, List.setIfInBounds_toArray, List.set_cons_zero, List.set_cons_succ]
          refine wpAnyH_take (i := 23) (oi := { dst := some 98, op := Go.Op.load 34 (Go.Operand.tmp 10), type := 34, pos := "law.go:135", after := #[{ on := 22, ground := Go.Ground.guard }], guard := some (22, true) }) (v := ?vz123) rfl (by kernel_rfl) (by kernel_rfl) (by kernel_rfl) (fun _ _ _ h => h) (Or.inl ⟨by rfl, ?hyz123⟩) (by assumption) ?restz123
          case hyz123 => first | (intro w hSw; (try dsimp only at hSw); go_simp; done) | (intro w hSw; (try dsimp only at hSw); go_simp; with_reducible rfl)
          try simp only [Act.put, List.setIfInBounds_toArray, List.set_cons_zero, List.set_cons_succ]
          refine wpAnyH_take (i := 24) (oi := { dst := some 99, op := Go.Op.load 34 (Go.Operand.tmp 13), type := 34, pos := "law.go:135", after := #[{ on := 22, ground := Go.Ground.guard }], guard := some (22, true) }) (v := ?vz124) rfl (by kernel_rfl) (by kernel_rfl) (by kernel_rfl) (fun _ _ _ h => h) (Or.inl ⟨by rfl, ?hyz124⟩) (by assumption) ?restz124
          case hyz124 => first | (intro w hSw; (try dsimp only at hSw); go_simp; done) | (intro w hSw; (try dsimp only at hSw); go_simp; with_reducible rfl)
          try simp only [Act.put, List.setIfInBounds_toArray, List.set_cons_zero, List.set_cons_succ]
          refine wpAnyH_ready (rs := [25]) (by kernel_rfl) (by simp) ?_
          refine AllReadyH.cons (o := { dst := some 100, op := Go.Op.call { callee := Go.Callee.value (Go.Operand.func 16), args := #[Go.Operand.tmp 98, Go.Operand.tmp 99], argTypes := #[34, 34] }, type := 4, pos := "law.go:135", after := #[{ on := 23, ground := Go.Ground.data }, { on := 24, ground := Go.Ground.data }, { on := 22, ground := Go.Ground.chain }, { on := 22, ground := Go.Ground.guard }], guard := some (22, true) }) rfl (fun K hK => ?_) AllReadyH.nil
          go_simp
          ((refine (HXZ.out _ (kept12_end hHeld)).mono ?_); rintro rz125 wz125 ⟨rfl, hbz125⟩)
          refine hK.out _ _ ?_ (fun hHeld => ?_)
          · exact kept12 hHeld hbz125
          clear hK K
          try simp only [Act.put, List.setIfInBounds_toArray, List.set_cons_zero, List.set_cons_succ]
          refine wpAnyH_take (i := 26) (oi := { dst := some 101, op := Go.Op.unOp Go.UnOp.not 4 (Go.Operand.tmp 100), type := 4, pos := "law.go:135", after := #[{ on := 25, ground := Go.Ground.data }, { on := 22, ground := Go.Ground.guard }], guard := some (22, true) }) (v := ?vz126) rfl (by kernel_rfl) (by kernel_rfl) (by kernel_rfl) (fun _ _ _ h => h) (Or.inl ⟨by rfl, ?hyz126⟩) (by assumption) ?restz126
          case hyz126 => first | (intro w hSw; (try dsimp only at hSw); go_simp; done) | (intro w hSw; (try dsimp only at hSw); go_simp; with_reducible rfl)
          try simp only [Act.put, List.setIfInBounds_toArray, List.set_cons_zero, List.set_cons_succ]
          refine wpAnyH_take (i := 27) (oi := { dst := some 102, op := Go.Op.move (Go.Operand.tmp 101), type := 4, pos := "law.go:135", after := #[{ on := 26, ground := Go.Ground.data }, { on := 25, ground := Go.Ground.chain }, { on := 22, ground := Go.Ground.guard }], guard := some (22, true) }) (v := ?vz127) rfl (by kernel_rfl) (by kernel_rfl) (by kernel_rfl) (fun _ _ _ h => h) (Or.inl ⟨by rfl, ?hyz127⟩) (by assumption) ?restz127
          case hyz127 => first | (intro w hSw; (try dsimp only at hSw); go_simp; done) | (intro w hSw; (try dsimp only at hSw); go_simp; with_reducible rfl)
          try simp only [Act.put, List.setIfInBounds_toArray, List.set_cons_zero, List.set_cons_succ]
          refine wpAnyH_take (i := 28) (oi := { dst := some 103, op := Go.Op.load 34 (Go.Operand.tmp 13), type := 34, pos := "law.go:135", after := #[{ on := 27, ground := Go.Ground.guard }], guard := some (27, false) }) (v := undef) rfl (by kernel_rfl) (by kernel_rfl) (by kernel_rfl) (fun _ _ _ h => h) (Or.inr ⟨by rfl, rfl⟩) (by assumption) ?restz128
          try simp only [Act.put, List.setIfInBounds_toArray, List.set_cons_zero, List.set_cons_succ]
          refine wpAnyH_take (i := 29) (oi := { dst := some 104, op := Go.Op.load 34 (Go.Operand.tmp 14), type := 34, pos := "law.go:135", after := #[{ on := 27, ground := Go.Ground.guard }], guard := some (27, false) }) (v := undef) rfl (by kernel_rfl) (by kernel_rfl) (by kernel_rfl) (fun _ _ _ h => h) (Or.inr ⟨by rfl, rfl⟩) (by assumption) ?restz129
          try simp only [Act.put, List.setIfInBounds_toArray, List.set_cons_zero, List.set_cons_succ]
          refine wpAnyH_take (i := 30) (oi := { dst := some 105, op := Go.Op.call { callee := Go.Callee.value (Go.Operand.func 16), args := #[Go.Operand.tmp 103, Go.Operand.tmp 104], argTypes := #[34, 34] }, type := 4, pos := "law.go:135", after := #[{ on := 28, ground := Go.Ground.data }, { on := 29, ground := Go.Ground.data }, { on := 27, ground := Go.Ground.chain }, { on := 27, ground := Go.Ground.guard }], guard := some (27, false) }) (v := undef) rfl (by kernel_rfl) (by kernel_rfl) (by kernel_rfl) (fun _ _ _ h => h) (Or.inr ⟨by rfl, rfl⟩) (by assumption) ?restz130
          try simp only [Act.put, List.setIfInBounds_toArray, List.set_cons_zero, List.set_cons_succ]
          refine wpAnyH_take (i := 31) (oi := { dst := some 106, op := Go.Op.move (Go.Operand.tmp 15), type := 4, pos := "law.go:135", after := #[{ on := 27, ground := Go.Ground.guard }], guard := some (27, false) }) (v := undef) rfl (by kernel_rfl) (by kernel_rfl) (by kernel_rfl) (fun _ _ _ h => h) (Or.inr ⟨by rfl, rfl⟩) (by assumption) ?restz131
          try simp only [Act.put, List.setIfInBounds_toArray, List.set_cons_zero, List.set_cons_succ]
          refine wpAnyH_take (i := 32) (oi := { dst := some 107, op := Go.Op.binOp Go.BinOp.eql 4 (Go.Operand.tmp 105) (Go.Operand.tmp 106) 4, type := 4, pos := "law.go:135", after := #[{ on := 30, ground := Go.Ground.data }, { on := 31, ground := Go.Ground.data }, { on := 27, ground := Go.Ground.guard }], guard := some (27, false) }) (v := undef) rfl (by kernel_rfl) (by kernel_rfl) (by kernel_rfl) (fun _ _ _ h => h) (Or.inr ⟨by rfl, rfl⟩) (by assumption) ?restz132
          try simp only [Act.put, List.setIfInBounds_toArray, List.set_cons_zero, List.set_cons_succ]
          refine wpAnyH_take (i := 33) (oi := { dst := some 108, op := Go.Op.pick (Go.Operand.tmp 102) (Go.Operand.const (Go.Value.bool true)) (Go.Operand.tmp 107), type := 4, pos := "law.go:135", after := #[{ on := 27, ground := Go.Ground.data }, { on := 32, ground := Go.Ground.data }, { on := 22, ground := Go.Ground.guard }], guard := some (22, true) }) (v := ?vz133) rfl (by kernel_rfl) (by kernel_rfl) (by kernel_rfl) (fun _ _ _ h => h) (Or.inl ⟨by rfl, ?hyz133⟩) (by assumption) ?restz133
          case hyz133 => first | (intro w hSw; (try dsimp only at hSw); go_simp; done) | (intro w hSw; (try dsimp only at hSw); go_simp; with_reducible rfl)
          try simp only [Act.put, List.setIfInBounds_toArray, List.set_cons_zero, List.set_cons_succ]
          refine wpAnyH_take (i := 34) (oi := { dst := some 109, op := Go.Op.pick (Go.Operand.tmp 97) (Go.Operand.tmp 108) (Go.Operand.const (Go.Value.bool false)), type := 4, pos := "law.go:135", after := #[{ on := 22, ground := Go.Ground.data }, { on := 33, ground := Go.Ground.data }], guard := none }) (v := ?vz134) rfl (by kernel_rfl) (by kernel_rfl) (by kernel_rfl) (fun _ _ _ h => h) (Or.inl ⟨by rfl, ?hyz134⟩) (by assumption) ?restz134
          case hyz134 => first | (intro w hSw; (try dsimp only at hSw); go_simp; done) | (intro w hSw; (try dsimp only at hSw); go_simp; with_reducible rfl)
          try simp only [Act.put, List.setIfInBounds_toArray, List.set_cons_zero, List.set_cons_succ]
          refine wpAnyH_take (i := 35) (oi := { dst := some 6, op := Go.Op.assign (Go.Operand.tmp 109), type := 4, pos := "law.go:135", after := #[{ on := 34, ground := Go.Ground.data }, { on := 30, ground := Go.Ground.chain }, { on := 0, ground := Go.Ground.phase }, { on := 1, ground := Go.Ground.phase }, { on := 2, ground := Go.Ground.phase }, { on := 3, ground := Go.Ground.phase }, { on := 4, ground := Go.Ground.phase }, { on := 5, ground := Go.Ground.phase }, { on := 6, ground := Go.Ground.phase }, { on := 7, ground := Go.Ground.phase }, { on := 8, ground := Go.Ground.phase }, { on := 9, ground := Go.Ground.phase }, { on := 10, ground := Go.Ground.phase }, { on := 11, ground := Go.Ground.phase }, { on := 12, ground := Go.Ground.phase }, { on := 13, ground := Go.Ground.phase }, { on := 14, ground := Go.Ground.phase }, { on := 15, ground := Go.Ground.phase }, { on := 16, ground := Go.Ground.phase }, { on := 17, ground := Go.Ground.phase }, { on := 18, ground := Go.Ground.phase }, { on := 19, ground := Go.Ground.phase }, { on := 20, ground := Go.Ground.phase }, { on := 21, ground := Go.Ground.phase }, { on := 22, ground := Go.Ground.phase }, { on := 23, ground := Go.Ground.phase }, { on := 24, ground := Go.Ground.phase }, { on := 25, ground := Go.Ground.phase }, { on := 26, ground := Go.Ground.phase }, { on := 27, ground := Go.Ground.phase }, { on := 28, ground := Go.Ground.phase }, { on := 29, ground := Go.Ground.phase }, { on := 30, ground := Go.Ground.phase }, { on := 31, ground := Go.Ground.phase }, { on := 32, ground := Go.Ground.phase }, { on := 33, ground := Go.Ground.phase }, { on := 34, ground := Go.Ground.phase }], guard := none }) (v := ?vz135) rfl (by kernel_rfl) (by kernel_rfl) (by kernel_rfl) (fun _ _ _ h => h) (Or.inl ⟨by rfl, ?hyz135⟩) (by assumption) ?restz135
          case hyz135 => first | (intro w hSw; (try dsimp only at hSw); go_simp; done) | (intro w hSw; (try dsimp only at hSw); go_simp; with_reducible rfl)
          try simp only [Act.put, List.setIfInBounds_toArray, List.set_cons_zero, List.set_cons_succ]
          refine wpAnyH_done (by kernel_rfl) ?_ _
          have hfin := via Hb9.out (kept12_end hHeld)
          go_wp2_with fail
          go_returns
          exact ⟨rfl, hfin⟩

theorem row_lenS {w : World} {v : Value} {n : Nat} {l : List Int} (h : Row w 1 v n (l.map (Value.int .i64))) : Row w 1 v l.length (l.map (Value.int .i64)) := by
  have : l.length = n := by have := h.len; simpa using this
  rw [this]; exact h
theorem law_TreeSame (ua va : Value) (n1 n2 : Nat) (ta la : List Int) (Ta : Int) (ub vb : Value) (n3 n4 : Nat) (tb lb : List Int) (Tb : Int) (how at_ n : Int) (str : ByteArray) (down : Bool) (w : World) (hl : LaidE w)
    (hua : Row w 1 ua n1 (ta.map (Value.int .i64))) (hva : Row w 1 va n2 (la.map (Value.int .i64))) (ba : ∀ z ∈ ta, -9223372036854775808 ≤ z ∧ z ≤ 9223372036854775807) (bva : ∀ z ∈ la, -9223372036854775808 ≤ z ∧ z ≤ 9223372036854775807) (hTa : -9223372036854775808 ≤ Ta ∧ Ta ≤ 9223372036854775807)
    (hub : Row w 1 ub n3 (tb.map (Value.int .i64))) (hvb : Row w 1 vb n4 (lb.map (Value.int .i64))) (bb : ∀ z ∈ tb, -9223372036854775808 ≤ z ∧ z ≤ 9223372036854775807) (bvb : ∀ z ∈ lb, -9223372036854775808 ≤ z ∧ z ≤ 9223372036854775807) (hTb : -9223372036854775808 ≤ Tb ∧ Tb ≤ 9223372036854775807) (hat : -9223372036854775808 ≤ at_ ∧ at_ ≤ 9223372036854775807) :
    Calls Tryd.prog 5 #[.agg #[ua, va, .int .i64 Ta], .agg #[ub, vb, .int .i64 Tb], .agg #[.int .i64 how, .int .i64 at_, .int .i64 n, .string str, .bool down]] w fun r w' => r = .returned (.bool true) ∧ Below w.heap.size w w' :=
  tsame_walk ua va Ta ta la ub vb Tb tb lb how at_ n str down w hl (row_lenS hua) (row_lenS hva) (row_lenS hub) (row_lenS hvb) ba bva hTa bb bvb hTb hat
end SLSame

end Go.Proofs.YtmcpanjpjnlleaaDoor


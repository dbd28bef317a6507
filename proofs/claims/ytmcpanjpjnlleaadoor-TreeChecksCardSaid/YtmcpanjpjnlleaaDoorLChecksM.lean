/- intagliolaw06.spoilt, whatever the turn. -/
import Derived.Test.YtmcpanjpjnlleaaDoorSpoilA
import Derived.Test.YtmcpanjpjnlleaaDoorSpoilB
import Derived.Test.YtmcpanjpjnlleaaDoorSpoilC
import Derived.Test.YtmcpanjpjnlleaaDoorSpoilD
import Derived.Test.YtmcpanjpjnlleaaDoorTrSize
import Derived.Test.YtmcpanjpjnlleaaDoorRSize
import Derived.Test.YtmcpanjpjnlleaaDoorRTCheck
import Derived.Deep.RegionHeld3
import Derived.Test.YtmcpanjpjnlleaaDoorMadeT2
import Derived.Test.YtmcpanjpjnlleaaDoorAw6
import Derived.Test.YtmcpanjpjnlleaaDoorTrDeep2
set_option linter.unusedVariables false
set_option linter.unusedSimpArgs false
namespace Go.Proofs.YtmcpanjpjnlleaaDoor
section SSpoilt
open Go.RowKit

theorem spoilt_any (s : Schema) (hr : rightB s = true) (d : Nat) (t : Int) (X : St (d + 1)) (cs : List Value) (w0 w : World) (hB0 : Below w0.heap.size w0 w) (h : RdS (d + 1) w0 cs X) (hf : FitT s (d + 1) t X) (how at_ n : Int) (str : ByteArray)
    (hat : -9223372036854775808 ≤ at_ ∧ at_ ≤ 9223372036854775807) (down : Bool) :
    Calls Tryd.prog 11 #[.agg cs.toArray, turnV how at_ n str down] w (SpP d X w0 w) := by
  have flat : ∀ (d : Nat) (t : Int) (X : St (d + 1)) (cs : List Value) (w : World), Below w0.heap.size w0 w → RdS (d + 1) w0 cs X → FitT s (d + 1) t X →
      Calls Tryd.prog 11 #[.agg cs.toArray, turnV how at_ n str false] w (SpP d X w0 w) := fun d t X cs w hB h hf => by
    by_cases hst : (50 : Int) < (str.size : Int)
    · exact spoil_A s hr d t X cs w0 w hB h hf how at_ n str hst hat
    · exact spoil_B s hr d t X cs w0 w hB h hf how at_ n str (by omega) hat
  cases down with
  | false => exact flat d t X cs w hB0 h hf
  | true =>
    by_cases hst : (50 : Int) < (str.size : Int)
    · exact spoil_C s hr d t X cs w0 w hB0 h hf how at_ n str hst hat flat
    · exact spoil_D s hr d t X cs w0 w hB0 h hf how at_ n str (by omega) hat flat

/-- What was read is read in every later world. -/
theorem SpP.later {d : Nat} {X : St (d + 1)} {w0 w : World} {r : Ending} {w' : World} (h : SpP d X w0 w r w') (hB0 : Below w0.heap.size w0 w) :
    ∃ a2 p2 a3 p3 X', r = .returned (.agg #[U (Node.num X'), .string (Node.bytes X'), .slice a2 (Node.nums X').length p2, .slice a3 (Node.kids X').length p3]) ∧ (Node.bytes X' = Node.bytes X ∧ Node.nums X' = Node.nums X) ∧
      (∀ W, Below w'.heap.size w' W → RdS (d + 1) W [U (Node.num X'), .string (Node.bytes X'), .slice a2 (Node.nums X').length p2, .slice a3 (Node.kids X').length p3] X') ∧ Below w.heap.size w w' := by
  obtain ⟨y0, y1, y2, y3, X', rfl, hn, hr, hb⟩ := h
  have h1 := hr w' (hB0.trans (hb.mono hB0.size)) (fun _ _ _ => rfl)
  obtain ⟨a2, p2, a3, p3, e, _⟩ := RdN.open h1
  simp only [List.cons.injEq, and_true] at e
  obtain ⟨rfl, rfl, rfl, rfl⟩ := e
  exact ⟨a2, p2, a3, p3, X', rfl, hn, fun W hW => h1.below hW (Nat.le_refl _), hb⟩
end SSpoilt

section SChecks
open Go.RowKit

theorem held4e {W0 W : World} {p1 p2 p3 p4 : Addr} {v1 v2 v3 v4 : Value} (h : W.cell? p1 = some v1 ∧ W.cell? p2 = some v2 ∧ W.cell? p3 = some v3 ∧ W.cell? p4 = some v4 ∧ Below W0.heap.size W0 W) : Below W0.heap.size W0 W := h.2.2.2.2
theorem held4k {W0 W W' : World} {b : Nat} {v1 v2 v3 v4 : Value} (hb0 : b < W0.heap.size) (h : W.cell? ⟨b, 0, none⟩ = some v1 ∧ W.cell? ⟨b, 1, none⟩ = some v2 ∧ W.cell? ⟨b, 2, none⟩ = some v3 ∧ W.cell? ⟨b, 3, none⟩ = some v4 ∧ Below W0.heap.size W0 W) (hb : Below W.heap.size W W') :
    W'.cell? ⟨b, 0, none⟩ = some v1 ∧ W'.cell? ⟨b, 1, none⟩ = some v2 ∧ W'.cell? ⟨b, 2, none⟩ = some v3 ∧ W'.cell? ⟨b, 3, none⟩ = some v4 ∧ Below W0.heap.size W0 W' := by
  obtain ⟨h1, h2, h3, h4, h5⟩ := h
  have hl : b < W.heap.size := Nat.lt_of_lt_of_le hb0 h5.size
  exact ⟨(hb.cell hl).trans h1, (hb.cell hl).trans h2, (hb.cell hl).trans h3, (hb.cell hl).trans h4, h5.trans (hb.mono h5.size)⟩

set_option maxRecDepth 100000 in
set_option maxHeartbeats 20000000 in
theorem checks_any (s : Schema) (sv : Value) (d : Nat) (t : Int) (v : St d) (cs : List Value) (w : World) (hl : LaidE w) (hs : Sch w sv s) (h : RdS d w cs v) :
    Calls Tryd.prog 17 #[sv, .int .i64 t, .agg cs.toArray] w fun r w' => r = .returned (.bool true) ∧ Below w.heap.size w w' := by
  cases d with
  | zero => exact nomatch v
  | succ d =>
    obtain ⟨a2, p2, a, cap, hcs, hbs, hn, hk, hnm, hkm⟩ := RdN.open h
    subst hcs
    obtain ⟨w1, hw1, hb1, hlt1, hbox⟩ := boxed w #[U (Node.num v), .string (Node.bytes v), .slice a2 (Node.nums v).length p2, .slice a (Node.kids v).length cap] 34
    have x0 : w1.cell? ⟨w.heap.size, 0, none⟩ = some (U (Node.num v)) := hbox 0
    have x1 : w1.cell? ⟨w.heap.size, 1, none⟩ = some (.string (Node.bytes v)) := hbox 1
    have x2 : w1.cell? ⟨w.heap.size, 2, none⟩ = some (.slice a2 (Node.nums v).length p2) := hbox 2
    have x3 : w1.cell? ⟨w.heap.size, 3, none⟩ = some (.slice a (Node.kids v).length cap) := hbox 3
    have hl1 := LaidE.below hl hb1 (LaidE.pos hl)
    have hs1 := hs.below hb1 (Nat.le_refl _)
    have h1 := h.below hb1 (Nat.le_refl _)
    have hck := fun W (hW : Below w1.heap.size w1 W) => tcheck_any s sv (d + 1) t v _ W (hs1.below hW (Nat.le_refl _)) (h1.below hW (Nat.le_refl _))
    have hrc := fun W (hW : Below w1.heap.size w1 W) => rtcheck_any s sv (d + 1) t v _ W (hs1.below hW (Nat.le_refl _)) (h1.below hW (Nat.le_refl _))
    have hsz := fun W (hW : Below w1.heap.size w1 W) => tsize_any s sv (d + 1) t v _ W (hs1.below hW (Nat.le_refl _)) (h1.below hW (Nat.le_refl _))
    have hrs := fun W (hW : Below w1.heap.size w1 W) => rsize_any s sv (d + 1) t v _ W (hs1.below hW (Nat.le_refl _)) (h1.below hW (Nat.le_refl _))
    have htop := fun (x : Int) W (hW : Below w1.heap.size w1 W) => top_err x W (LaidE.below hl1 hW (LaidE.pos hl1))
    generalize checkC s (d + 1) t v = c at *
    generalize sizeT s (d + 1) t v = z at *
    clear hbox hs h hs1 h1 hk hn hl hl1
    go_enter Tryd.func17, Tryd.ntmps17
    go_wp2_with fail
    clear hw1
    go_region_held3 (fun W => W.cell? ⟨w.heap.size, 0, none⟩ = some (U (Node.num v)) ∧ W.cell? ⟨w.heap.size, 1, none⟩ = some (.string (Node.bytes v)) ∧ W.cell? ⟨w.heap.size, 2, none⟩ = some (.slice a2 (Node.nums v).length p2) ∧ W.cell? ⟨w.heap.size, 3, none⟩ = some (.slice a (Node.kids v).length cap) ∧ Below w1.heap.size w1 W)
      (first | exact ⟨x0, x1, x2, x3, below_drewN _ _ 1⟩ | exact held4k hlt1 (by assumption) hb2 | exact held4k hlt1 (by assumption) hb3 | exact held4k hlt1 (by assumption) hb4 | exact held4k hlt1 (by assumption) hb5 | exact held4k hlt1 (by assumption) hb6)
      (first
      | (go_at_call 21; (with_reducible refine (hck _ (held4e (by assumption))).mono ?_); rintro r2 w2 ⟨rfl, hb2⟩)
      | (go_at_call 15; (with_reducible refine (htop c _ (held4e (by assumption))).mono ?_); rintro r3 w3 ⟨rfl, hb3⟩)
      | (go_at_call 34; (with_reducible refine (hrc _ (held4e (by assumption))).mono ?_); rintro r4 w4 ⟨rfl, hb4⟩)
      | (go_at_call 20; (with_reducible refine (hsz _ (held4e (by assumption))).mono ?_); rintro r5 w5 ⟨rfl, hb5⟩)
      | (go_at_call 35; (with_reducible refine (hrs _ (held4e (by assumption))).mono ?_); rintro r6 w6 ⟨rfl, hb6⟩))
    all_goals
      first
      | have hfin := hb1.trans ((held4e (W0 := w1) (W := w6) (by assumption)).mono hb1.size)
      | have hfin := hb1.trans ((held4e (W0 := w1) (W := w5) (by assumption)).mono hb1.size)
      clear hck hrc hsz hrs htop
      go_wp2_with fail
      go_returns
      exact ⟨rfl, hfin⟩
end SChecks

section SLChecks
open Go.RowKit

theorem sch_none (W : World) (b o c : Nat) (hc : c ≤ maxLen) : Sch W (.slice (some ⟨b, o, none⟩) 0 c) [] :=
  ⟨[], ⟨by simp, by simp, some ⟨b, o, none⟩, c, rfl, Nat.zero_le _, hc, (fun h => by cases h), fun h => absurd h (Nat.lt_irrefl 0)⟩, fun i l h => by simp at h⟩

set_option maxRecDepth 100000 in
set_option maxHeartbeats 40000000 in
theorem tchecks_walk (u v : Value) (T : Int) (tl vl : List Int) (how at_ n : Int) (str : ByteArray) (down : Bool) (t2 : Int) (w : World) (hl : LaidE w) (hu : Row w 1 u tl.length (tl.map (Value.int .i64))) (hv : Row w 1 v vl.length (vl.map (Value.int .i64)))
    (hub : ∀ z ∈ tl, -9223372036854775808 ≤ z ∧ z ≤ 9223372036854775807) (hvb : ∀ z ∈ vl, -9223372036854775808 ≤ z ∧ z ≤ 9223372036854775807) (hT : -9223372036854775808 ≤ T ∧ T ≤ 9223372036854775807) (hat : -9223372036854775808 ≤ at_ ∧ at_ ≤ 9223372036854775807) :
    Calls Tryd.prog 6 #[.agg #[u, v, .int .i64 T], .agg #[.int .i64 how, .int .i64 at_, .int .i64 n, .string str, .bool down], .int .i64 t2] w fun r w' => r = .returned (.bool true) ∧ Below w.heap.size w w' := by
  obtain ⟨au, cu, hue, _⟩ := hu.open
  obtain ⟨av, cv, hve, _⟩ := hv.open
  obtain ⟨w1, hw1, hb1, hlt1, hbox1⟩ := boxed w #[u, v, .int .i64 T] 24
  obtain ⟨w1', hw1', hb1', hQ⟩ := QB.make w1 how at_ n str down 26
  have q0 : w1'.cell? ⟨w.heap.size, 0, none⟩ = some u := (hb1'.cell (p := ⟨w.heap.size, 0, none⟩) hlt1).trans (hbox1 0)
  have q1 : w1'.cell? ⟨w.heap.size, 1, none⟩ = some v := (hb1'.cell (p := ⟨w.heap.size, 1, none⟩) hlt1).trans (hbox1 1)
  have q2 : w1'.cell? ⟨w.heap.size, 2, none⟩ = some (.int .i64 T) := (hb1'.cell (p := ⟨w.heap.size, 2, none⟩) hlt1).trans (hbox1 2)
  have hlt1' : w.heap.size < w1'.heap.size := Nat.lt_of_lt_of_le hlt1 hb1'.size
  have hb01 := via hb1 hb1'
  have hl1 := LaidE.below hl hb01 (LaidE.pos hl)
  have hspec := hid fun W (hW : Below w.heap.size w W) => spec_any 5 6 (by omega) rfl u v T tl vl W (hu.below hW (Nat.le_refl _)) (hv.below hW (Nat.le_refl _)) hub hvb hT
  subst hue hve
  have HQ := hid hQ
  clear hu hv hub hvb hbox1 hb1 hb1' hlt1 hQ
  go_enter Tryd.func6, Tryd.ntmps6
  go_wp2_with fail
  ((refine (awake06 _ hl1).mono ?_); rintro r2 w2 ⟨rfl, hb2⟩)
  replace q0 := (hb2.cell hlt1').trans q0
  replace q1 := (hb2.cell hlt1').trans q1
  replace q2 := (hb2.cell hlt1').trans q2
  have hb12 := via hb01 hb2
  have hl2 := LaidE.below hl1 hb2 (LaidE.pos hl1)
  have HQ2 := hid (HQ.out.below hb2)
  clear hw1 hw1' HQ
  go_wp2_with fail
  ((refine (hspec.out _ hb12).mono ?_); rintro r3 w3 ⟨sv, s, t, x0, x1, x2, x3, X, rfl, hb3, hs, hr, ht, hs4, hrd, hfit⟩)
  obtain ⟨a2, p2, a, cap, hcs, hbs, _, hk, hnm, hkm⟩ := RdN.open hrd
  simp only [List.cons.injEq] at hcs
  obtain ⟨rfl, rfl, rfl, rfl, _⟩ := hcs
  have hb13 := via hb12 hb3
  have hl3 := LaidE.below hl2 hb3 (LaidE.pos hl2)
  have HQ3 := hid (HQ2.out.below hb3)
  clear hspec q0 q1 q2 hb2 hb3 hl1 hl2 hb12 hb01 HQ2 hk
  obtain ⟨w4, hw4, hb4, hz4, hV⟩ := TB.make w3 (U (Node.num X)) (.string (Node.bytes X)) (.slice a2 (Node.nums X).length p2) (.slice a (Node.kids X).length cap) 34
  have hb14 := via hb13 hb4
  have hl4 := LaidE.below hl3 hb4 (LaidE.pos hl3)
  have hQ4 := HQ3.out.below hb4
  have ⟨ltQ, t0, t1, t2', t3, t4, _⟩ := hQ4
  have ⟨ltV, y0, y1, y2, y3, _⟩ := hV
  have Hs := hid fun W (hW : Below w4.heap.size w4 W) => (hs.below hb4 (Nat.le_refl _)).below hW (Nat.le_refl _)
  have Hrd := hid fun W (hW : Below w4.heap.size w4 W) => (hrd.below hb4 (Nat.le_refl _)).below hW (Nat.le_refl _)
  have Hsp := hid (spoilt_any s hr 5 t X _ w4 w4 (Below.refl _ _) (hrd.below hb4 (Nat.le_refl _)) hfit how at_ n str hat down)
  have HV := hid hV
  clear hs hrd hz4 hb13 hl3 HQ3 hfit hr ht hs4 hV hQ4 hb4
  go_wp2_with fail
  ((refine Hsp.out.mono ?_); intro r5 w5 h5)
  clear hw4 t0 t1 t2' t3 t4 y0 y1 y2 y3
  obtain ⟨b2, q2, b3, q3, Y, rfl, hnY, hrY, hb5⟩ := h5.later (Below.refl _ _)
  clear hnY
  clear h5 Hsp
  obtain ⟨w6, hw6, hb6, hz6, hZ⟩ := TB.make w5 (U (Node.num Y)) (.string (Node.bytes Y)) (.slice b2 (Node.nums Y).length q2) (.slice b3 (Node.kids Y).length q3) 34
  have hb46 := hb5.trans (hb6.mono hb5.size)
  have hb16 := via hb14 hb46
  have hl6 := LaidE.below hl4 hb46 (LaidE.pos hl4)
  have ⟨ltV6, y0, y1, y2, y3, _⟩ := HV.out.below hb46
  have ⟨ltZ, z0, z1, z2, z3, _⟩ := hZ
  have HrY := hid fun W (hW : Below w6.heap.size w6 W) => hrY W (hb6.trans (hW.mono hb6.size))
  have HrX := hid fun W (hW : Below w6.heap.size w6 W) => Hrd.out W (hb46.trans (hW.mono hb46.size))
  have HsX := hid fun W (hW : Below w6.heap.size w6 W) => Hs.out W (hb46.trans (hW.mono hb46.size))
  have HcX := hid fun (tt : Int) W (hW : Below w6.heap.size w6 W) => checks_any s sv 6 tt X _ W (LaidE.below hl6 hW (LaidE.pos hl6)) (HsX.out W hW) (HrX.out W hW)
  have HcY := hid fun (tt : Int) W (hW : Below w6.heap.size w6 W) => checks_any s sv 6 tt Y _ W (LaidE.below hl6 hW (LaidE.pos hl6)) (HsX.out W hW) (HrY.out W hW)
  have HcN := hid fun (b : Nat) W (hW : Below w6.heap.size w6 W) => checks_any [] (.slice (some ⟨b, 0, none⟩) 0 0) 6 0 X _ W (LaidE.below hl6 hW (LaidE.pos hl6)) (sch_none W b 0 0 (Nat.zero_le _)) (HrX.out W hW)
  have HdX := hid fun W (hW : Below w6.heap.size w6 W) => deep_any 6 (by omega) X _ W (HrX.out W hW)
  have HdY := hid fun W (hW : Below w6.heap.size w6 W) => deep_any 6 (by omega) Y _ W (HrY.out W hW)
  have HeX := hid fun W (hW : Below w6.heap.size w6 W) => rdeep_any 6 (by omega) X _ W (HrX.out W hW)
  have HeY := hid fun W (hW : Below w6.heap.size w6 W) => rdeep_any 6 (by omega) Y _ W (HrY.out W hW)
  obtain ⟨dX, hdX⟩ : ∃ d, d = deepT 6 X := ⟨_, rfl⟩
  obtain ⟨dY, hdY⟩ : ∃ d, d = deepT 6 Y := ⟨_, rfl⟩
  rw [← hdX] at HdX HeX
  rw [← hdY] at HdY HeY
  have Hcell := hid fun W (hW : Below w6.heap.size w6 W) => show W.cell? ⟨w3.heap.size, 0, none⟩ = some (U (Node.num X)) ∧ W.cell? ⟨w3.heap.size, 1, none⟩ = some (.string (Node.bytes X)) ∧ W.cell? ⟨w3.heap.size, 2, none⟩ = some (.slice a2 (Node.nums X).length p2) ∧ W.cell? ⟨w3.heap.size, 3, none⟩ = some (.slice a (Node.kids X).length cap) ∧
      W.cell? ⟨w5.heap.size, 0, none⟩ = some (U (Node.num Y)) ∧ W.cell? ⟨w5.heap.size, 1, none⟩ = some (.string (Node.bytes Y)) ∧ W.cell? ⟨w5.heap.size, 2, none⟩ = some (.slice b2 (Node.nums Y).length q2) ∧ W.cell? ⟨w5.heap.size, 3, none⟩ = some (.slice b3 (Node.kids Y).length q3) ∧ Below w6.heap.size w6 W from
    ⟨(hW.cell ltV6).trans y0, (hW.cell ltV6).trans y1, (hW.cell ltV6).trans y2, (hW.cell ltV6).trans y3, (hW.cell ltZ).trans z0, (hW.cell ltZ).trans z1, (hW.cell ltZ).trans z2, (hW.cell ltZ).trans z3, hW⟩
  have Hb16 := hid hb16
  clear hdX hdY hrY hb6 hb5 hb46 hb16 HV Hs Hrd hb14 hl4 hZ hz6 ltV6 ltZ ltV ltQ
  go_wp2_with fail
  clear y0 y1 y2 y3 z0 z1 z2 z3 hw6
  ((refine (HcX.out _ _ (Below.refl _ _)).mono ?_); rintro r7 w7 ⟨rfl, hb7⟩)
  obtain ⟨y0, y1, y2, y3, z0, z1, z2, z3, _⟩ := Hcell.out _ hb7
  go_wp2_with fail
  clear y0 y1 y2 y3 z0 z1 z2 z3
  ((refine (HcY.out _ _ hb7).mono ?_); rintro r8 w8 ⟨rfl, hc8⟩)
  have hb8 := hb7.trans (hc8.mono hb7.size)
  clear hb7 hc8
  go_wp2_with fail
  go_region_held3 (fun W => W.cell? ⟨w3.heap.size, 0, none⟩ = some (U (Node.num X)) ∧ W.cell? ⟨w3.heap.size, 1, none⟩ = some (.string (Node.bytes X)) ∧ W.cell? ⟨w3.heap.size, 2, none⟩ = some (.slice a2 (Node.nums X).length p2) ∧ W.cell? ⟨w3.heap.size, 3, none⟩ = some (.slice a (Node.kids X).length cap) ∧
      W.cell? ⟨w5.heap.size, 0, none⟩ = some (U (Node.num Y)) ∧ W.cell? ⟨w5.heap.size, 1, none⟩ = some (.string (Node.bytes Y)) ∧ W.cell? ⟨w5.heap.size, 2, none⟩ = some (.slice b2 (Node.nums Y).length q2) ∧ W.cell? ⟨w5.heap.size, 3, none⟩ = some (.slice b3 (Node.kids Y).length q3) ∧ Below w6.heap.size w6 W)
    (first | exact Hcell.out _ (hb8.trans (below_drewN _ _ 1)) | exact kept8 (by assumption) hb9 | exact kept8 (by assumption) hb10 | exact kept8 (by assumption) hb11 | exact kept8 (by assumption) hb12 | exact kept8 (by assumption) hb13 | exact kept8 (by assumption) hb14 | exact kept8 (by assumption) (below_alloc _ _))
    (first
    | (go_at_call 17; (with_reducible refine (HcN.out _ _ (kept8_end (by assumption))).mono ?_); rintro r10 w10 ⟨rfl, hb10⟩)
    | (go_at_call 17; (with_reducible refine (HcX.out _ _ (kept8_end (by assumption))).mono ?_); rintro r9 w9 ⟨rfl, hb9⟩)
    | (go_at_call 18; (with_reducible refine (HdX.out _ (kept8_end (by assumption))).mono ?_); rintro r11 w11 ⟨rfl, hb11⟩)
    | (go_at_call 19; (with_reducible refine (HeX.out _ (kept8_end (by assumption))).mono ?_); rintro r12 w12 ⟨rfl, hb12⟩)
    | (go_at_call 18; (with_reducible refine (HdY.out _ (kept8_end (by assumption))).mono ?_); rintro r13 w13 ⟨rfl, hb13⟩)
    | (go_at_call 19; (with_reducible refine (HeY.out _ (kept8_end (by assumption))).mono ?_); rintro r14 w14 ⟨rfl, hb14⟩))
  all_goals
    first
    | have hfin := via Hb16.out (kept8_end (W0 := w6) (W := w14) (by assumption))
    | have hfin := via Hb16.out (kept8_end (W0 := w6) (W := w13) (by assumption))
    clear HcN HcX HcY HdX HdY HeX HeY
    go_wp2_with fail
    go_returns
    exact ⟨rfl, hfin⟩

theorem row_lenS {w : World} {v : Value} {n : Nat} {l : List Int} (h : Row w 1 v n (l.map (Value.int .i64))) : Row w 1 v l.length (l.map (Value.int .i64)) := by
  have : l.length = n := by have := h.len; simpa using this
  rw [this]; exact h
theorem law_TreeChecks (u v : Value) (n m : Nat) (tl vl : List Int) (T : Int) (how at_ k : Int) (str : ByteArray) (down : Bool) (t2 : Int) (w : World) (hl : LaidE w) (hu : Row w 1 u n (tl.map (Value.int .i64))) (hv : Row w 1 v m (vl.map (Value.int .i64)))
    (hub : ∀ z ∈ tl, -9223372036854775808 ≤ z ∧ z ≤ 9223372036854775807) (hvb : ∀ z ∈ vl, -9223372036854775808 ≤ z ∧ z ≤ 9223372036854775807) (hT : -9223372036854775808 ≤ T ∧ T ≤ 9223372036854775807) (hat : -9223372036854775808 ≤ at_ ∧ at_ ≤ 9223372036854775807) :
    Calls Tryd.prog 6 #[.agg #[u, v, .int .i64 T], .agg #[.int .i64 how, .int .i64 at_, .int .i64 k, .string str, .bool down], .int .i64 t2] w fun r w' => r = .returned (.bool true) ∧ Below w.heap.size w w' :=
  tchecks_walk u v T tl vl how at_ k str down t2 w hl (row_lenS hu) (row_lenS hv) hub hvb hT hat
end SLChecks

end Go.Proofs.YtmcpanjpjnlleaaDoor


/- A struct's size is what its parts come to. -/
import Derived.Test.YtmcpanjpjnlleaaDoorMadeT2
import Derived.Test.YtmcpanjpjnlleaaDoorAw6
import Derived.Test.YtmcpanjpjnlleaaDoorTrDeep
import Derived.Deep.RegionHeld3
set_option linter.unusedVariables false
namespace Go.Proofs.YtmcpanjpjnlleaaDoor
open Go.RowKit

def SzRel {K : Type} (f : K → Nat) (ks : List K) (N : Nat) (w4 : World) (nv iv : Value) (wr : World) : Prop :=
  ∃ i T1 : Nat, i ≤ N ∧ iv = .int .i64 i ∧ nv = .int .i64 T1 ∧ T1 = 1 + N + sumL f (ks.take i) ∧ Below w4.heap.size w4 wr

def SzRel2 {K : Type} (f : K → Nat) (ks : List K) (M T : Nat) (wk : World) (nv jv : Value) (wr : World) : Prop :=
  ∃ j T2 : Nat, j ≤ M ∧ jv = .int .i64 j ∧ nv = .int .i64 T2 ∧ T2 = T + sumL f (ks.take j) ∧ Below wk.heap.size wk wr

set_option maxRecDepth 100000 in
set_option maxHeartbeats 40000000 in
theorem sizes_walk (u v : Value) (T : Int) (tl vl : List Int) (w : World) (hl : LaidE w) (hu : Row w 1 u tl.length (tl.map (Value.int .i64))) (hv : Row w 1 v vl.length (vl.map (Value.int .i64)))
    (hub : ∀ z ∈ tl, -9223372036854775808 ≤ z ∧ z ≤ 9223372036854775807) (hvb : ∀ z ∈ vl, -9223372036854775808 ≤ z ∧ z ≤ 9223372036854775807) (hT : -9223372036854775808 ≤ T ∧ T ≤ 9223372036854775807) :
    Calls Tryd.prog 7 #[.agg #[u, v, .int .i64 T]] w fun r w' => r = .returned (.bool true) ∧ Below w.heap.size w w' := by
  obtain ⟨au, cu, hue, _⟩ := hu.open
  obtain ⟨av, cv, hve, _⟩ := hv.open
  obtain ⟨w1, hw1, hb1, hlt1, hbox1⟩ := boxed w #[u, v, .int .i64 T] 24
  have q0 : w1.cell? ⟨w.heap.size, 0, none⟩ = some u := hbox1 0
  have q1 : w1.cell? ⟨w.heap.size, 1, none⟩ = some v := hbox1 1
  have q2 : w1.cell? ⟨w.heap.size, 2, none⟩ = some (.int .i64 T) := hbox1 2
  have hl1 := LaidE.below hl hb1 (LaidE.pos hl)
  have hspec := hid fun W (hW : Below w.heap.size w W) => spec_any 3 4 (by omega) rfl u v T tl vl W (hu.below hW (Nat.le_refl _)) (hv.below hW (Nat.le_refl _)) hub hvb hT
  subst hue hve
  clear hu hv hub hvb hbox1
  go_enter Tryd.func7, Tryd.ntmps7
  go_wp2_with fail
  ((refine (awake06 _ hl1).mono ?_); rintro r2 w2 ⟨rfl, hb2⟩)
  replace q0 := (hb2.cell hlt1).trans q0
  replace q1 := (hb2.cell hlt1).trans q1
  replace q2 := (hb2.cell hlt1).trans q2
  have hb12 := via hb1 hb2
  have hl2 := LaidE.below hl1 hb2 (LaidE.pos hl1)
  clear hw1
  go_wp2_with fail
  ((refine (hspec.out _ hb12).mono ?_); rintro r3 w3 ⟨sv, s, t, x0, x1, x2, x3, X, rfl, hb3, hs, hr, ht, hs4, hrd, hfit⟩)
  obtain ⟨a2, p2, a, cap, hcs, hbs, _, hk, hnm, hkm⟩ := RdN.open hrd
  simp only [List.cons.injEq] at hcs
  obtain ⟨rfl, rfl, rfl, rfl, _⟩ := hcs
  have hb13 := via hb12 hb3
  have hl3 := LaidE.below hl2 hb3 (LaidE.pos hl2)
  clear hspec q0 q1 q2 hb2 hb3 hl1 hl2 hb12 hb1
  have hC0 : checkC s 4 t X = 0 := by rw [checkC, if_pos ⟨hr, by omega, by omega⟩]; exact fit_code s 4 5 t X hfit (by omega)
  have hlim := words_lim hC0
  have hlim2 := lim_le
  have hsz0 : sizeT s 4 t X = 1 + wordsT 4 X := by rw [sizeT, if_pos hC0]
  have hszn : sizeT s 4 (s.length : Int) X = 0 := by
    rw [sizeT, if_neg]
    rw [checkC, if_neg (fun h => by have := h.2.2; omega)]
    decide
  have hdeep := deepT_le 4 X
  obtain ⟨hf1, hf2, hf3, hf4, hf5⟩ := hfit
  obtain ⟨l, hlt⟩ := get_lt (l := s) (i := t) ht
  have htl := typeL_at hlt
  obtain ⟨N, hN⟩ : ∃ N, N = (Node.kids X).length := ⟨_, rfl⟩
  have hNl : N = l.length := by rw [hN, ← htl]; exact hf4
  obtain ⟨sa, scap, hsv, _, _, hsm⟩ := hs.shape
  unfold maxLen at hsm
  obtain ⟨n, hn⟩ : ∃ n, n = s.length := ⟨_, rfl⟩
  rw [← hn] at hsm hsv ht
  subst hsv
  rw [← hN] at hk hkm ⊢
  obtain ⟨w4, hw4, hb4, hz4, hV⟩ := TB.make w3 (U (Node.num X)) (.string (Node.bytes X)) (.slice a2 (Node.nums X).length p2) (.slice a N cap) 34
  have hb14 := via hb13 hb4
  have hl4 := LaidE.below hl3 hb4 (LaidE.pos hl3)
  have Hs := hid fun W (hW : Below w4.heap.size w4 W) => (hs.below hb4 (Nat.le_refl _)).below hW (Nat.le_refl _)
  have Hrd := hid fun W (hW : Below w4.heap.size w4 W) => (hrd.below hb4 (Nat.le_refl _)).below hW (Nat.le_refl _)
  have Hk := hid fun W (hW : Below w4.heap.size w4 W) => (hk.below (kept_N (kept_S 3)) hb4 (Nat.le_refl _)).below (kept_N (kept_S 3)) hW (Nat.le_refl _)
  have HN := hid hN
  have HNl := hid hNl
  have Hn := hid hn
  have Hlt := hid hlt
  have Htl := hid htl
  have H5 := hid hf5
  have HC0 := hid hC0
  have Hsz0 := hid hsz0
  have Hszn := hid hszn
  obtain ⟨f, hf⟩ : ∃ f, f = wordsF (wordsT 3) := ⟨_, rfl⟩
  have hW4 : wordsT 4 X = N + sumL f (Node.kids X) := by rw [hf, hN]; exact wordsT_succ 3 X
  have HW4 := hid hW4
  have hNL : N + sumL f (Node.kids X) ≤ LIM := by rw [← hW4]; exact hlim
  clear hs hrd hk hN hNl hn hlt htl hf1 hf2 hf3 hf4 hf5 hC0 hsz0 hszn hlim hW4 hb4 hb13 hl3
  have Hf := hid hf
  clear hf
  have ⟨ltV, y0, y1, y2, y3, _⟩ := hV
  have hrel0 := hid (show SzRel f (Node.kids X) N w4 (.int .i64 (1 + (N : Int))) (.int .i64 0) w4 from ⟨0, 1 + N, Nat.zero_le _, rfl, by congr 1, by simp [sumL], Below.refl _ _⟩)
  go_wp2_with fail
  clear hw4
  go_loopw [7, 8] (fun nv iv wr => SzRel f (Node.kids X) N w4 nv iv wr) (fun _ iv _ => N - (intOf iv).toNat)
  case atStart => exact hrel0.out
  case round =>
    clear hrel0
    obtain ⟨i, T1, hi, rfl, rfl, hT1, hbl⟩ := hrel
    have z3 := (hbl.cell (p := ⟨w3.heap.size, 3, none⟩) ltV).trans y3
    by_cases hiN : i < N
    · obtain ⟨wo, rfl⟩ : ∃ wo : World, wo = wr := ⟨_, rfl⟩
      obtain ⟨fk, hfk⟩ := get_lt (l := Node.kids X) (i := i) (by rw [← HN.out]; exact hiN)
      obtain ⟨b, off, a4, p4, a5, p5, rfl, hbb, c0, c1, c2, c3, hfb, _, hfkk, _, hfnn, hfm⟩ := Kids.at_ (Hk.out _ hbl) hfk
      obtain ⟨⟨kd, ty⟩, hp⟩ := get_lt (l := l) (i := i) (by rw [← HNl.out]; exact hiN)
      obtain ⟨hkd1, hkd5, hty0, htyn, _⟩ := right_at hr Hlt.out hp
      simp only at hty0 htyn
      rw [← Hn.out] at htyn
      obtain ⟨tn, rfl⟩ : ∃ tn : Nat, ty = (tn : Int) := ⟨ty.toNat, by omega⟩
      have hfp : fieldP s t i = (kd, (tn : Int)) := fieldP_at (by rw [Htl.out]; exact hp)
      have Hsz := hid fun (j : Nat) (x : St 3) (hx : fk.kids[j]? = some x) => show sizeT s 3 (tn : Int) x = 1 + wordsT 3 x by
        have hft := (H5.out i fk hfk).2.2 x (List.mem_of_getElem? hx)
        rw [hfp] at hft
        rw [sizeT, if_pos]
        rw [checkC, if_pos ⟨hr, by omega, by rw [← Hn.out]; exact htyn⟩]
        exact fit_code s 3 5 tn x hft (by omega)
      obtain ⟨M, hM⟩ : ∃ M, M = fk.kids.length := ⟨_, rfl⟩
      obtain ⟨R, hR⟩ : ∃ R, R = fk.nums.length := ⟨_, rfl⟩
      obtain ⟨Q, hQ⟩ : ∃ Q, Q = fk.bytes.size := ⟨_, rfl⟩
      rw [← hM] at hfkk hfm c3
      rw [← hR] at hfnn c2
      rw [← hQ] at hfb
      have hsucc := sumL_succ f (Node.kids X) i fk hfk
      have hle := sumL_get_le f (Node.kids X) i fk hfk
      have hfe : f fk = (Q + 7) / 8 + R + sumL (wordsT 3) fk.kids := by rw [Hf.out, hQ, hR]; rfl
      have hT1L : T1 + ((Q + 7) / 8 + R + sumL (wordsT 3) fk.kids) ≤ LIM + 1 := by rw [← hfe]; omega
      have HM := hid hM
      have HR := hid hR
      have HQ := hid hQ
      have Hfk := hid hfk
      have Hp := hid hp
      have Hsucc := hid (show 1 + N + sumL f ((Node.kids X).take (i + 1)) = T1 + ((Q + 7) / 8 + R + sumL (wordsT 3) fk.kids) by rw [hsucc, hfe]; omega)
      clear hM hR hQ hfk hp hsucc hle hfe hT1 hfp
      obtain ⟨wk, hwk, hbk, hzk, hK⟩ := TB.make wo (U fk.num) (.string fk.bytes) (.slice a4 R p4) (.slice a5 M p5) 34
      have ⟨ltK, k0, k1, k2, k3, _⟩ := hK
      have hblk := hbl.trans (hbk.mono hbl.size)
      have Hfkk := hid fun W (hW : Below wk.heap.size wk W) => (hfkk.below (kept_S 3) hbk (Nat.le_refl _)).below (kept_S 3) hW (Nat.le_refl _)
      clear hfkk
      obtain ⟨cc, hcc⟩ : ∃ cc : Nat, cc = (Q + 7) / 8 := ⟨_, rfl⟩
      rw [← hcc] at hT1L Hsucc
      have hcc2 : ((Q : Int) + 7) / 8 = (cc : Int) := by omega
      clear hcc
      have hlim3 : T1 + (cc + R + sumL (wordsT 3) fk.kids) ≤ 1000000000001 := by unfold LIM at hT1L; exact hT1L
      clear hT1L
      have HQ2 := hid (show (fk.bytes.size : Int) = (Q : Int) by rw [HQ.out])
      have hQ3 : (fk.bytes.size : Int) = (Q : Int) := HQ2.out
      go_wp2_with fail
      clear hwk k0 k1 k2 c0 c1 c2 c3 z3
      go_loopw [7, 10] (fun nv jv wr => SzRel2 (wordsT 3) fk.kids M (T1 + (cc + R)) wk nv jv wr) (fun _ jv _ => M - (intOf jv).toNat)
      case atStart => exact ⟨0, T1 + (cc + R), Nat.zero_le _, rfl, by congr 1 <;> omega, by simp [sumL], Below.refl _ _⟩
      case round =>
        obtain ⟨j, T2, hj, rfl, rfl, hT2, hbj⟩ := hrel
        have m3 := (hbj.cell (p := ⟨wo.heap.size, 3, none⟩) ltK).trans k3
        by_cases hjM : j < M
        · obtain ⟨x, hx⟩ := get_lt (l := fk.kids) (i := j) (by rw [← HM.out]; exact hjM)
          obtain ⟨b2, off2, xn, xb, e2, m2, s2, e3, m3', s3, rfl, hbb2, q0, q1, q2, q3, hrx⟩ := Kids.atS (Hfkk.out _ hbj) hx
          have hb4r := hblk.trans (hbj.mono hblk.size)
          obtain ⟨bs, offs, al, capl, hsa, hbs3, hcl, hfl, hlm, _, _⟩ := (Hs.out _ hb4r).at_ Hlt.out
          subst hsa
          rw [← HNl.out] at hcl hlm hfl
          obtain ⟨bl, offl, hal, hbbl, r0, r1⟩ := hfl.at_ Hp.out
          subst hal
          simp only at r1
          have hle := sumL_get_le (wordsT 3) fk.kids j x hx
          have hsucc := sumL_succ (wordsT 3) fk.kids j x hx
          obtain ⟨sx, hsx⟩ : ∃ sx, sx = 1 + wordsT 3 x := ⟨_, rfl⟩
          have hT2L : T2 + sx ≤ 1000000000002 := by omega
          have hw1 : IntKind.i64.wrap ((T2 : Int) + (sx : Int)) = (T2 : Int) + (sx : Int) := IntWalk.i64_in _ (by omega)
          have hw2 : IntKind.i64.wrap ((T2 : Int) + (sx : Int) - 1) = (T2 : Int) + (sx : Int) - 1 := IntWalk.i64_in _ (by omega)
          have Hrel := hid fun W (hW : Below wr.heap.size wr W) => show SzRel2 (wordsT 3) fk.kids M (T1 + (cc + R)) wk (.int .i64 ((T2 : Int) + (sx : Int) - 1)) (.int .i64 ((j + 1 : Nat) : Int)) W from ⟨j + 1, T2 + wordsT 3 x, by omega, rfl, by congr 1; omega, by rw [hsucc, hT2]; omega, hbj.trans (hW.mono hbj.size)⟩
          have hsize := fun W (hW : Below wr.heap.size wr W) => tsize_any s (.slice (some ⟨bs, offs, none⟩) n scap) 3 (tn : Int) x _ W (Hs.out W (hb4r.trans (hW.mono hb4r.size))) (hrx.below hW (Nat.le_refl _))
          rw [Hsz.out j x hx, ← hsx] at hsize
          have Hmk := hid fun W (hW : Below wr.heap.size wr W) => show Below wr.heap.size wr W ∧ W.cell? ⟨bs, offs + t, none⟩ = some (.slice (some ⟨bl, offl, none⟩) N capl) ∧ W.cell? ⟨bl, offl + i * 2 + 1, none⟩ = some (.int .i64 (tn : Int)) ∧ W.cell? ⟨wo.heap.size, 3, none⟩ = some (.slice (some ⟨b2, off2, none⟩) M p5) ∧ W.cell? ⟨b2, off2 + j * 4, none⟩ = some (U xn) ∧ W.cell? ⟨b2, off2 + j * 4 + 1, none⟩ = some (.string xb) ∧ W.cell? ⟨b2, off2 + j * 4 + 2, none⟩ = some (.slice e2 m2 s2) ∧ W.cell? ⟨b2, off2 + j * 4 + 3, none⟩ = some (.slice e3 m3' s3) from
            ⟨hW, (hW.cell hbs3).trans hcl, (hW.cell hbbl).trans r1, (hW.cell (Nat.lt_of_lt_of_le ltK hbj.size)).trans m3, (hW.cell hbb2).trans q0, (hW.cell hbb2).trans q1, (hW.cell hbb2).trans q2, (hW.cell hbb2).trans q3⟩
          unfold maxLen at hlm
          clear hx hle hsucc hsx hrx hfl hT2 hbb2 hbbl hbs3
          go_wp2_with fail
          go_region_held3 (fun W => Below wr.heap.size wr W ∧ W.cell? ⟨bs, offs + t, none⟩ = some (.slice (some ⟨bl, offl, none⟩) N capl) ∧ W.cell? ⟨bl, offl + i * 2 + 1, none⟩ = some (.int .i64 (tn : Int)) ∧ W.cell? ⟨wo.heap.size, 3, none⟩ = some (.slice (some ⟨b2, off2, none⟩) M p5) ∧ W.cell? ⟨b2, off2 + j * 4, none⟩ = some (U xn) ∧ W.cell? ⟨b2, off2 + j * 4 + 1, none⟩ = some (.string xb) ∧ W.cell? ⟨b2, off2 + j * 4 + 2, none⟩ = some (.slice e2 m2 s2) ∧ W.cell? ⟨b2, off2 + j * 4 + 3, none⟩ = some (.slice e3 m3' s3))
            (first | exact Hmk.out _ (below_drewN _ _ 1) | exact Hmk.out _ (heldB (by assumption) hb5))
            ((go_at_call 20; (with_reducible refine (hsize _ (And.left (by assumption))).mono ?_); rintro r wC ⟨rfl, hb5⟩))
          have hfin2 : Below wr.heap.size wr wC := (below_drewN _ wr 1).trans hb5
          have hrel2 := hid (Hrel.out _ hfin2)
          clear hsize
          go_wp2_with fail
          exact ⟨hrel2.out, by simp [intOf] <;> omega⟩
        · obtain rfl : j = M := by omega
          have hb4r := hblk.trans (hbj.mono hblk.size)
          have hend := hid fun W (hW : W = wr) => show SzRel f (Node.kids X) N w4 (.int .i64 (T2 : Int)) (.int .i64 ((i + 1 : Nat) : Int)) W from ⟨i + 1, T2, by omega, rfl, rfl, by
            rw [Hsucc.out, hT2, List.take_of_length_le (by rw [← HM.out]; exact Nat.le_refl _)]; omega, hW ▸ hb4r⟩
          clear hT2 hbj hb4r
          go_wp2_with fail
          exact ⟨hend.out _ rfl, by simp [intOf] <;> omega⟩
    · obtain rfl : i = N := by omega
      have hT1e : T1 = 1 + wordsT 4 X := by rw [HW4.out, hT1, List.take_of_length_le (by rw [← HN.out]; exact Nat.le_refl _)]; omega
      have hA := hid fun W (hW : Below w4.heap.size w4 W) => tsize_any s (.slice sa n scap) 4 (t : Int) X _ W (Hs.out W hW) (Hrd.out W hW)
      have hC := hid fun W (hW : Below w4.heap.size w4 W) => tcheck_any s (.slice sa n scap) 4 (t : Int) X _ W (Hs.out W hW) (Hrd.out W hW)
      have hD := hid fun W (hW : Below w4.heap.size w4 W) => deep_any 4 (by omega) X _ W (Hrd.out W hW)
      have hZ := hid fun W (hW : Below w4.heap.size w4 W) => tsize_any s (.slice sa n scap) 4 (s.length : Int) X _ W (Hs.out W hW) (Hrd.out W hW)
      rw [Hsz0.out, ← hT1e] at hA
      rw [HC0.out, show ErrV 0 = .nilIface from rfl] at hC
      rw [Hszn.out, ← Hn.out] at hZ
      obtain ⟨dp, hdp⟩ : ∃ dp, dp = deepT 4 X := ⟨_, rfl⟩
      rw [← hdp] at hdeep hD
      rw [← HN.out] at hA hC hD hZ
      clear hdp hT1e hT1
      have hcell := hid fun W (hW : Below w4.heap.size w4 W) => show W.cell? ⟨w3.heap.size, 0, none⟩ = some (U (Node.num X)) ∧ W.cell? ⟨w3.heap.size, 1, none⟩ = some (.string (Node.bytes X)) ∧ W.cell? ⟨w3.heap.size, 2, none⟩ = some (.slice a2 (Node.nums X).length p2) ∧ W.cell? ⟨w3.heap.size, 3, none⟩ = some (.slice a i cap) from
        ⟨(hW.cell ltV).trans y0, (hW.cell ltV).trans y1, (hW.cell ltV).trans y2, (hW.cell ltV).trans y3⟩
      have htop := hid fun W (hW : Below w4.heap.size w4 W) => top_err 0 W (LaidE.below hl4 hW (LaidE.pos hl4))
      rw [show ErrV 0 = .nilIface from rfl] at htop
      clear y0 y1 y2 y3 z3
      obtain ⟨g0, g1, g2, g3⟩ := hcell.out _ hbl
      go_wp2_with fail
      ((refine (hA.out _ hbl).mono ?_); rintro ra wa ⟨rfl, ha⟩)
      clear g0 g1 g2 g3
      have hba := hbl.trans (ha.mono hbl.size)
      obtain ⟨g0, g1, g2, g3⟩ := hcell.out _ hba
      clear ha
      go_wp2_with fail
      ((refine (hC.out _ hba).mono ?_); rintro rb wb ⟨rfl, hb⟩)
      clear g0 g1 g2 g3
      have hbb := hba.trans (hb.mono hba.size)
      clear hb
      go_wp2_with fail
      ((refine (htop.out _ hbb).mono ?_); rintro rc wc ⟨rfl, hc⟩)
      have hbc := hbb.trans (hc.mono hbb.size)
      obtain ⟨g0, g1, g2, g3⟩ := hcell.out _ hbc
      clear hc
      go_wp2_with fail
      ((refine (hD.out _ hbc).mono ?_); rintro rd wd ⟨rfl, hd⟩)
      clear g0 g1 g2 g3
      have hbd := hbc.trans (hd.mono hbc.size)
      obtain ⟨g0, g1, g2, g3⟩ := hcell.out _ hbd
      clear hd
      have hdp4 : (dp : Int) ≤ 4 := by omega
      go_wp2_with fail
      ((refine (hZ.out _ hbd).mono ?_); rintro re we ⟨rfl, he⟩)
      have hbe := via hb14 (hbd.trans (he.mono hbd.size))
      clear g0 g1 g2 g3 he
      go_wp2_with fail
      go_returns
      exact ⟨rfl, hbe⟩

theorem row_lenS {w : World} {v : Value} {n : Nat} {l : List Int} (h : Row w 1 v n (l.map (Value.int .i64))) : Row w 1 v l.length (l.map (Value.int .i64)) := by
  have : l.length = n := by have := h.len; simpa using this
  rw [this]; exact h
theorem law_TreeSizes (u v : Value) (n m : Nat) (tl vl : List Int) (T : Int) (w : World) (hl : LaidE w) (hu : Row w 1 u n (tl.map (Value.int .i64))) (hv : Row w 1 v m (vl.map (Value.int .i64)))
    (hub : ∀ z ∈ tl, -9223372036854775808 ≤ z ∧ z ≤ 9223372036854775807) (hvb : ∀ z ∈ vl, -9223372036854775808 ≤ z ∧ z ≤ 9223372036854775807) (hT : -9223372036854775808 ≤ T ∧ T ≤ 9223372036854775807) :
    Calls Tryd.prog 7 #[.agg #[u, v, .int .i64 T]] w fun r w' => r = .returned (.bool true) ∧ Below w.heap.size w w' :=
  sizes_walk u v T tl vl w hl (row_lenS hu) (row_lenS hv) hub hvb hT
end Go.Proofs.YtmcpanjpjnlleaaDoor


/- The document's look: a struct is visited. -/
import Derived.Test.YtblbhlgihlgncaaDoorRLook
import Derived.Test.YtblbhlgihlgncaaDoorGo
import Derived.Test.YtblbhlgihlgncaaDoorGg
import Derived.Test.YtblbhlgihlgncaaDoorGf
import Derived.Test.YtblbhlgihlgncaaDoorVRow
set_option linter.unusedVariables false
set_option linter.unusedSimpArgs false
namespace Go.Proofs.YtblbhlgihlgncaaDoor
section SRVisit
open Go.RowKit

def RVisC (s : Schema) (ws : List (BitVec 64)) (sv : Value) (a : Option Addr) (cap g : Nat) (w0 : World) (k : Nat) : Prop :=
  ∀ (t at' c deep : Nat) (w : World), Below g w0 w → LrB w g (c, none) → c < ws.length → t < s.length → at' + (typeL s t).length ≤ ws.length → deep + k = 5 →
    Calls Tryd.prog 56 #[.pointer (some ⟨g, 0, none⟩), sv, .slice a ws.length cap, .int .i64 t, .int .i64 at', .int .i64 deep] w
      fun r w' => r = .returned (.tuple #[]) ∧ LrB w' g (visN s ws k t at' c) ∧ w.grownBy w' (some g)

set_option maxRecDepth 100000 in
set_option maxHeartbeats 8000000 in
theorem rvisit_step {s : Schema} {ws : List (BitVec 64)} {sv : Value} {a : Option Addr} {cap g : Nat} {w0 : World} (hx : Lx s ws sv a cap g w0) (k : Nat) (hsub : ∀ k', k = k' + 1 → RVisC s ws sv a cap g w0 k') : RVisC s ws sv a cap g w0 k := by
  intro t at' c deep w hb hl hc ht hat hd
  obtain ⟨sa, scap, hsv, _, _, hsm⟩ := hx.hs.shape
  unfold maxLen at hsm
  obtain ⟨l, hl3⟩ := get_lt ht
  have Htl := hid (typeL_at hl3)
  have Hl := hid hl3
  have hhs := hx.hs
  obtain ⟨n, hn2⟩ : ∃ n, n = s.length := ⟨_, rfl⟩
  rw [← hn2] at hsm hsv ht
  have Hn := hid hn2
  subst hsv
  obtain ⟨bs, offs, al, capl, hsa, hbs0, hcl0, hfl0, hlm, hlc, hlc2⟩ := hhs.at_ hl3
  subst hsa
  obtain ⟨m, hm⟩ : ∃ m, m = l.length := ⟨_, rfl⟩
  have Hm := hid hm
  rw [← hm] at hcl0 hfl0 hlm
  rw [Htl.out, ← hm] at hat
  have hm6 : m ≤ 6 := by have := typeL_six hx.hr t; rw [Htl.out] at this; omega
  unfold maxLen at hlm
  obtain ⟨L, hL⟩ : ∃ L, L = ws.length := ⟨_, rfl⟩
  have hL2 := hx.hL
  rw [← hL] at hc hat hL2 ⊢
  have HL := hid hL
  obtain ⟨bw, offw, cap', he, hcap1, hcap2, hbw0, hcw0⟩ := hx.hw.cons (by omega)
  simp only [Value.slice.injEq, true_and] at he
  obtain ⟨rfl, rfl⟩ := he
  rw [← HL.out] at hcap1 hcw0
  obtain ⟨F, hF⟩ : ∃ F : Nat → Nat → LS, F = fun (i c : Nat) => oneN s ws (subN s ws k) (fieldP s t i) (at' + i) c := ⟨_, rfl⟩
  have Hgoal := hid (show visN s ws k t at' c = runN F m c by rw [hF, Hm.out, ← Htl.out]; rfl)
  have HF := hid fun (i c : Nat) => show F i c = oneN s ws (subN s ws k) (fieldP s t i) (at' + i) c by rw [hF]
  have Hbd := hid (show ∀ i, Bd ws.length (runN F i c) from fun i => by rw [hF]; exact runN_bd (fun (i : Nat) c hc => oneN_bd hx.hr (subN_bd hx.hr k) _ _ c hc) i c (by rw [← HL.out]; exact hc))
  have hg0 := hx.hg
  have Hb := hid hb
  have Hx := hid hx
  have Hfl := hid hfl0
  have hbs : bs < g := Nat.lt_of_lt_of_le hbs0 hg0
  have hbw : bw < g := Nat.lt_of_lt_of_le hbw0 hg0
  have hgl := hl.lt
  have Hsub := hid hsub
  have Hat := hid hcw0
  have Hhs := hid hhs
  rw [Hgoal.out]
  clear hx hL hl3 hn2 hm hF hb hfl0 hsub hcw0 hhs
  go_enter Tryd.func56, Tryd.ntmps56
  go_wp2_with fail
  go_loopw [12] (fun iv wr => ∃ i : Nat, i ≤ m ∧ iv = .int .i64 i ∧ LrB wr g (runN F i c) ∧ w.grownBy wr (some g)) (fun iv _ => m - (intOf iv).toNat)
  case atStart => exact ⟨0, Nat.zero_le _, rfl, hl, grown_refl _ _⟩
  case round =>
    clear hl
    obtain ⟨i, him, rfl, hLr, hgr⟩ := hrel
    have hbr := below_grown Hb.out hgr (Nat.le_of_lt hgl)
    have hcl := (hbr.cell (p := ⟨bs, offs + t, none⟩) hbs).trans hcl0
    have hbd := Hbd.out i
    rw [← HL.out] at hbd
    obtain ⟨⟨ci, ei⟩, hR⟩ : ∃ r, runN F i c = r := ⟨_, rfl⟩
    rw [hR] at hLr hbd
    have HR := hid hR
    clear hR
    cases ei with
    | some e =>
      have c0 : wr.cell? ⟨g, 0, none⟩ = some (.int .i64 e.1) := hLr.cell 0
      have he0 : (e.1 == 0) = false := by rw [beq_eq_false_iff_ne]; have := hbd.code e.1 e.2 rfl; omega
      have hfin := hid (show LrB wr g (runN F m c) ∧ w.grownBy wr (some g) from by
        have h := runN_bad HR.out (m - i)
        rw [show i + (m - i) = m by omega] at h
        rw [h]
        exact ⟨hLr, hgr⟩)
      clear hLr hbd hgr hbr
      by_cases hlt : i < m
      · go_wp2_with fail
        go_returns
        exact ⟨rfl, hfin.out⟩
      · obtain rfl : i = m := by omega
        go_wp2_with fail
        go_returns
        exact ⟨rfl, hfin.out⟩
    | none =>
      have c0 : wr.cell? ⟨g, 0, none⟩ = some (.int .i64 0) := hLr.cell 0
      have hci := hbd.ok rfl
      simp only at hci
      clear hbd
      by_cases hlt : i < m
      · obtain ⟨⟨kd, ty⟩, hp⟩ := get_lt (l := l) (i := i) (by rw [← Hm.out]; exact hlt)
        obtain ⟨bl, offl, hal, hbbl0, r00, r10⟩ := Hfl.out.at_ hp
        subst hal
        simp only at r00 r10
        have hbbl : bl < g := Nat.lt_of_lt_of_le hbbl0 hg0
        have r0 := (hbr.cell (p := ⟨bl, offl + i * 2, none⟩) hbbl).trans r00
        have r1 := (hbr.cell (p := ⟨bl, offl + i * 2 + 1, none⟩) hbbl).trans r10
        obtain ⟨hkd1, hkd5, hty0, htyn, _⟩ := right_at Hx.out.hr Hl.out hp
        simp only at hkd1 hkd5 hty0 htyn
        rw [← Hn.out] at htyn
        obtain ⟨tn, rfl⟩ : ∃ tn : Nat, ty = (tn : Int) := ⟨ty.toNat, by omega⟩
        have Hfp : Hid (fieldP s t i = (kd, (tn : Int))) := hid (fieldP_at (by rw [Htl.out]; exact hp))
        obtain ⟨x, hxe⟩ : ∃ x, ws[at' + i]? = some x := get_lt (by rw [← HL.out]; omega)
        have hxc0 := Hat.out (at' + i) (by omega)
        rw [List.getElem?_map, hxe, Option.map_some] at hxc0
        have hxc := (hbr.cell (p := ⟨bw, offw + (at' + i), none⟩) hbw).trans hxc0
        have Hnext := hid (show runN F (i + 1) c = oneN s ws (subN s ws k) (kd, (tn : Int)) (at' + i) ci by rw [runN_ok HR.out, HF.out, Hfp.out])
        have Hgd := hid (show ws.getD (at' + i) 0#64 = x by rw [List.getD_eq_getElem?_getD, hxe]; rfl)
        have hati : IntKind.i64.wrap ((at' : Int) + (i : Int)) = ((at' + i : Nat) : Int) := by rw [← Int.natCast_add]; exact IntWalk.i64_in _ (by omega)
        obtain ⟨wf, hwf, hbf, hltf, hboxf⟩ := boxed wr #[.int .i64 kd, .int .i64 (tn : Int)] 24
        have g0 : wf.cell? ⟨wr.heap.size, 0, none⟩ = some (.int .i64 kd) := hboxf 0
        have g1 : wf.cell? ⟨wr.heap.size, 1, none⟩ = some (.int .i64 (tn : Int)) := hboxf 1
        have hLf := hLr.below hbf
        have hgf := grown_below hgr hbf
        have hgne : wr.heap.size ≠ g := by have := hLr.lt; omega
        have hxcf := (hbf.cell (p := ⟨bw, offw + (at' + i), none⟩) (Nat.lt_trans hbw hLr.lt)).trans hxc
        have hbrf := below_grown Hb.out hgf (Nat.le_of_lt hgl)
        have hlo := lo_toInt x
        have hhi := hi_toInt x
        have hlo2 : loN x < 4294967296 := by unfold loN; omega
        have hhi2 : hiN x < 4294967296 := by unfold hiN; have := x.isLt; omega
        obtain ⟨off, hoff⟩ : ∃ o, o = loN x := ⟨_, rfl⟩
        obtain ⟨num, hnum⟩ : ∃ o, o = hiN x := ⟨_, rfl⟩
        rw [← hoff] at hlo hlo2
        rw [← hnum] at hhi hhi2
        have Hoff := hid hoff
        have Hnum := hid hnum
        have hp64 : ((at' + i : Nat) : Int) < (L : Int) := by omega
        obtain ⟨p, hpe⟩ : ∃ p, p = at' + i := ⟨_, rfl⟩
        rw [← hpe] at hati hxcf Hnext Hgd hp64 hxc
        have Hp := hid hpe
        have hsz : wr.heap.size < wf.heap.size := hltf
        clear hp hxe hxc0 hoff hnum hpe hLr hgr hbr hboxf hbf hxc r00 r10
        by_cases hsk : kd = 1 ∨ x = 0#64
        · -- nothing
          have hfin := hid (show LrB wf g (runN F (i + 1) c) ∧ w.grownBy wf (some g) by
            rw [Hnext.out]
            unfold oneN
            rw [Hgd.out, if_pos hsk]
            exact ⟨hLf, hgf⟩)
          clear Hnext hLf hgf hbrf
          by_cases hk1 : kd = 1
          · subst hk1
            go_wp2_with fail
            go_roundw
            case rel => exact ⟨i + 1, by omega, by go_num, hfin.out⟩
            case measure => simp [intOf]; omega
          · obtain rfl : x = 0#64 := by rcases hsk with h | h; exact absurd h hk1; exact h
            have nk1 : (kd == 1) = false := by rw [beq_eq_false_iff_ne]; exact hk1
            clear hsk
            go_wp2_with fail
            go_roundw
            case rel => exact ⟨i + 1, by omega, by go_num, hfin.out⟩
            case measure => simp [intOf]; omega
        have nk1 : (kd == 1) = false := by rw [beq_eq_false_iff_ne]; exact fun h => hsk (.inl h)
        have nx0 : (x == 0#64) = false := by rw [beq_eq_false_iff_ne]; exact fun h => hsk (.inr h)
        have hwr := fun (c2 : Nat) (e : Int) (W : World) (h : LrB W g (c2, none)) => rwrong_any g c2 p e W h
        have Hgood := hid fun (h : ¬ (off = 0 ∨ num = 0 ∨ mostN kd < num)) => show runN F (i + 1) c = refN s ws (subN s ws k) kd (tn : Int) p (p + off) num ci by
          rw [Hnext.out]
          unfold oneN
          rw [Hgd.out, if_neg hsk, ← Hoff.out, ← Hnum.out, if_neg h]
        have Hbad := hid fun (h : off = 0 ∨ num = 0 ∨ mostN kd < num) => show runN F (i + 1) c = (ci, some (10, p)) by
          rw [Hnext.out]
          unfold oneN
          rw [Hgd.out, if_neg hsk, ← Hoff.out, ← Hnum.out, if_pos h]
        have Hend := hid fun (c2 : Nat) (e : Int × Nat) (h : runN F (i + 1) c = (c2, some e)) => show runN F m c = (c2, some e) by
          have h := runN_bad h (m - (i + 1))
          rwa [show i + 1 + (m - (i + 1)) = m by omega] at h
        have hwr10 := hwr ci 10 wf hLf
        have Hwr := hid hwr
        clear Hnext Hgd hsk hwr
        have hpo : IntKind.i64.wrap ((p : Int) + (off : Int)) = ((p + off : Nat) : Int) := by rw [← Int.natCast_add]; exact IntWalk.i64_in _ (by omega)
        rcases (show kd = 2 ∨ kd = 3 ∨ kd = 4 ∨ kd = 5 by have := hkd1; have h1 : ¬ kd = 1 := (fun h => by simp [h] at nk1); omega) with rfl | rfl | rfl | rfl
        · rw [show mostN 2 = 40 from rfl] at Hgood Hbad
          by_cases hbad : off = 0 ∨ num = 0 ∨ 40 < num
          · have Hfin := hid (Hend.out _ _ (Hbad.out hbad))
            by_cases ho : off = 0
            · subst ho
              clear hbad hpo
              go_wp2_with fail
              ((refine hwr10.mono ?_); rintro r w1 ⟨rfl, k1, k2⟩)
              go_wp2_with fail
              go_returns
              exact ⟨rfl, by rw [Hfin.out]; exact k1, grown_trans hgf k2⟩
            · have hoff0 : ((off : Int) == 0) = false := by rw [beq_eq_false_iff_ne]; omega
              by_cases hn : num = 0
              · subst hn
                clear hbad ho
                go_wp2_with fail
                ((refine hwr10.mono ?_); rintro r w1 ⟨rfl, k1, k2⟩)
                go_wp2_with fail
                go_returns
                exact ⟨rfl, by rw [Hfin.out]; exact k1, grown_trans hgf k2⟩
              · have hnum0 : ((num : Int) == 0) = false := by rw [beq_eq_false_iff_ne]; omega
                have hgt : (40 : Int) < (num : Int) := by omega
                clear hbad ho hn
                go_wp2_with fail
                ((refine hwr10.mono ?_); rintro r w1 ⟨rfl, k1, k2⟩)
                go_wp2_with fail
                go_returns
                exact ⟨rfl, by rw [Hfin.out]; exact k1, grown_trans hgf k2⟩
          have hoff0 : ((off : Int) == 0) = false := by rw [beq_eq_false_iff_ne]; omega
          have hnum0 : ((num : Int) == 0) = false := by rw [beq_eq_false_iff_ne]; omega
          have hle : (num : Int) ≤ (40 : Int) := by omega
          have hnp : 0 < num := by omega
          have hgood := Hgood.out hbad
          clear Hgood Hbad hbad hwr10
          have hq := rcount_q num (by omega)
          obtain ⟨q, hqe⟩ : ∃ q, q = (num + 7) / 8 := ⟨_, rfl⟩
          have hg2 : runN F (i + 1) c = (match clV L ci (p + off) q p with
              | (c', none) => (c', if textOk ((ws.drop (p + off)).take q) num then none else some (10, p))
              | (c', some e) => (c', some e)) := by rw [hgood, HL.out, hqe]; rfl
          rw [← hqe] at hq
          have hq0 : 0 < q := by omega
          have hq5 : q ≤ 5 := by omega
          clear hgood hqe
          have hcm := rclaim_any g ci L cap (p + off) q p (some ⟨bw, offw, none⟩) wf hLf (by omega) (by omega) (by omega) (by omega) (by omega)
          obtain ⟨⟨c2, e2⟩, hC⟩ : ∃ r, clV L ci (p + off) q p = r := ⟨_, rfl⟩
          rw [hC] at hg2 hcm
          cases e2 with
          | some e =>
            simp only at hg2
            have he0 : (e.1 == 0) = false := by
              rw [beq_eq_false_iff_ne]
              have := (clV_bd (L := L) (c := ci) (to := p + off) (n := q) (p := p) (by omega) hci).code e.1 e.2 (by rw [hC])
              omega
            clear hC
            go_wp2_with fail
            ((refine (hq _).mono ?_); rintro r w1 ⟨rfl, rfl⟩)
            go_wp2_with fail
            ((refine hcm.mono ?_); rintro r w1 ⟨rfl, k1, k2⟩)
            have c9 : w1.cell? ⟨g, 0, none⟩ = some (.int .i64 e.1) := k1.cell 0
            have hfin := hid (show LrB w1 g (runN F (i + 1) c) ∧ w.grownBy w1 (some g) from ⟨by rw [hg2]; exact k1, grown_trans hgf k2⟩)
            clear k1 k2 hg2
            go_wp2_with fail
            go_roundw
            case rel => exact ⟨i + 1, by omega, by go_num, hfin.out⟩
            case measure => simp [intOf]; omega
          | none =>
            simp only at hg2
            obtain ⟨-, hto, -⟩ := clV_none hC
            have hto' : (p : Int) + (off : Int) + (q : Int) ≤ (L : Int) := by omega
            have hto2 : ((p + off : Nat) : Int) + (q : Int) ≤ (L : Int) := by omega
            have hcapi : (L : Int) ≤ (cap : Int) := by omega
            have htext := hid fun W (hW : Below g w0 W) => rtext_any ((ws.drop (p + off)).take q) (.slice (some ⟨bw, offw + (p + off), none⟩) q (cap - (p + off))) num W (row_sub (Hx.out.hw.below hW hg0) rfl (p + off) q (by rw [← HL.out]; exact hto)) ⟨by omega, by omega⟩ (by rw [List.length_take]; omega)
            clear hC
            generalize textV ((ws.drop (p + off)).take q) num = tx at *
            generalize textOk ((ws.drop (p + off)).take q) num = ok at *
            have hpq : IntKind.i64.wrap (((p + off : Nat) : Int) + (q : Int)) = ((p + off + q : Nat) : Int) := by rw [← Int.natCast_add]; exact IntWalk.i64_in _ (by omega)
            cases ok with
            | true =>
              simp only [if_true] at hg2
              go_wp2_with fail
              ((refine (hq _).mono ?_); rintro r w1 ⟨rfl, rfl⟩)
              go_wp2_with fail
              ((refine hcm.mono ?_); rintro r w1 ⟨rfl, k1, k2⟩)
              have c9 : w1.cell? ⟨g, 0, none⟩ = some (.int .i64 0) := k1.cell 0
              have hb1 := hid (below_grown hbrf k2 (Nat.le_of_lt hLf.lt))
              clear hcm
              go_wp2_with fail
              ((refine (htext.out _ hb1.out).mono ?_); rintro r w2 ⟨rfl, hb2⟩)
              have hfin := hid (show LrB w2 g (runN F (i + 1) c) ∧ w.grownBy w2 (some g) from ⟨by rw [hg2]; exact k1.below hb2, grown_below (grown_trans hgf k2) hb2⟩)
              clear k1 k2 hg2
              go_wp2_with fail
              go_roundw
              case rel => exact ⟨i + 1, by omega, by go_num, hfin.out⟩
              case measure => simp [intOf]; omega
            | false =>
              simp only [Bool.false_eq_true, if_false] at hg2
              go_wp2_with fail
              ((refine (hq _).mono ?_); rintro r w1 ⟨rfl, rfl⟩)
              go_wp2_with fail
              ((refine hcm.mono ?_); rintro r w1 ⟨rfl, k1, k2⟩)
              have c9 : w1.cell? ⟨g, 0, none⟩ = some (.int .i64 0) := k1.cell 0
              have hb1 := hid (below_grown hbrf k2 (Nat.le_of_lt hLf.lt))
              clear hcm
              go_wp2_with fail
              ((refine (htext.out _ hb1.out).mono ?_); rintro r w2 ⟨rfl, hb2⟩)
              have hwq := Hwr.out c2 10 w2 (k1.below hb2)
              have Hg2 := hid (grown_below (grown_trans hgf k2) hb2)
              clear k1 k2
              go_wp2_with fail
              ((refine hwq.mono ?_); rintro r w3 ⟨rfl, k3, k4⟩)
              have hfin := hid (show LrB w3 g (runN F (i + 1) c) ∧ w.grownBy w3 (some g) from ⟨by rw [hg2]; exact k3, grown_trans Hg2.out k4⟩)
              clear k3 k4 hg2
              go_wp2_with fail
              go_roundw
              case rel => exact ⟨i + 1, by omega, by go_num, hfin.out⟩
              case measure => simp [intOf]; omega
        · rw [show mostN 3 = 12 from rfl] at Hgood Hbad
          by_cases hbad : off = 0 ∨ num = 0 ∨ 12 < num
          · have Hfin := hid (Hend.out _ _ (Hbad.out hbad))
            by_cases ho : off = 0
            · subst ho
              clear hbad hpo
              go_wp2_with fail
              ((refine hwr10.mono ?_); rintro r w1 ⟨rfl, k1, k2⟩)
              go_wp2_with fail
              go_returns
              exact ⟨rfl, by rw [Hfin.out]; exact k1, grown_trans hgf k2⟩
            · have hoff0 : ((off : Int) == 0) = false := by rw [beq_eq_false_iff_ne]; omega
              by_cases hn : num = 0
              · subst hn
                clear hbad ho
                go_wp2_with fail
                ((refine hwr10.mono ?_); rintro r w1 ⟨rfl, k1, k2⟩)
                go_wp2_with fail
                go_returns
                exact ⟨rfl, by rw [Hfin.out]; exact k1, grown_trans hgf k2⟩
              · have hnum0 : ((num : Int) == 0) = false := by rw [beq_eq_false_iff_ne]; omega
                have hgt : (12 : Int) < (num : Int) := by omega
                clear hbad ho hn
                go_wp2_with fail
                ((refine hwr10.mono ?_); rintro r w1 ⟨rfl, k1, k2⟩)
                go_wp2_with fail
                go_returns
                exact ⟨rfl, by rw [Hfin.out]; exact k1, grown_trans hgf k2⟩
          have hoff0 : ((off : Int) == 0) = false := by rw [beq_eq_false_iff_ne]; omega
          have hnum0 : ((num : Int) == 0) = false := by rw [beq_eq_false_iff_ne]; omega
          have hle : (num : Int) ≤ (12 : Int) := by omega
          have hnp : 0 < num := by omega
          have hgood := Hgood.out hbad
          clear Hgood Hbad hbad hwr10
          rw [show refN s ws (subN s ws k) 3 (tn : Int) p (p + off) num ci = clV ws.length ci (p + off) num p from rfl, ← HL.out] at hgood
          have hcm := rclaim_any g ci L cap (p + off) num p (some ⟨bw, offw, none⟩) wf hLf (by omega) (by omega) (by omega) (by omega) (by omega)
          rw [← hgood] at hcm
          clear hLf
          go_wp2_with fail
          ((refine hcm.mono ?_); rintro r w1 ⟨rfl, k1, k2⟩)
          have hfin := hid (grown_trans hgf k2)
          go_wp2_with fail
          go_roundw
          case rel => exact ⟨i + 1, by omega, by go_num, k1, hfin.out⟩
          case measure => simp [intOf]; omega
        · rw [show mostN 4 = 1 from rfl] at Hgood Hbad
          by_cases hbad : off = 0 ∨ num = 0 ∨ 1 < num
          · have Hfin := hid (Hend.out _ _ (Hbad.out hbad))
            by_cases ho : off = 0
            · subst ho
              clear hbad hpo
              go_wp2_with fail
              ((refine hwr10.mono ?_); rintro r w1 ⟨rfl, k1, k2⟩)
              go_wp2_with fail
              go_returns
              exact ⟨rfl, by rw [Hfin.out]; exact k1, grown_trans hgf k2⟩
            · have hoff0 : ((off : Int) == 0) = false := by rw [beq_eq_false_iff_ne]; omega
              by_cases hn : num = 0
              · subst hn
                clear hbad ho
                go_wp2_with fail
                ((refine hwr10.mono ?_); rintro r w1 ⟨rfl, k1, k2⟩)
                go_wp2_with fail
                go_returns
                exact ⟨rfl, by rw [Hfin.out]; exact k1, grown_trans hgf k2⟩
              · have hnum0 : ((num : Int) == 0) = false := by rw [beq_eq_false_iff_ne]; omega
                have hgt : (1 : Int) < (num : Int) := by omega
                clear hbad ho hn
                go_wp2_with fail
                ((refine hwr10.mono ?_); rintro r w1 ⟨rfl, k1, k2⟩)
                go_wp2_with fail
                go_returns
                exact ⟨rfl, by rw [Hfin.out]; exact k1, grown_trans hgf k2⟩
          have hoff0 : ((off : Int) == 0) = false := by rw [beq_eq_false_iff_ne]; omega
          have hnum0 : ((num : Int) == 0) = false := by rw [beq_eq_false_iff_ne]; omega
          have hle : (num : Int) ≤ (1 : Int) := by omega
          have hnp : 0 < num := by omega
          have hgood := Hgood.out hbad
          clear Hgood Hbad hbad hwr10
          by_cases hk0 : k = 0
          · subst hk0
            obtain rfl : deep = 5 := by omega
            have hw16 := Hwr.out ci 16 wf hLf
            have Hfin := hid (Hend.out ci (16, p) (by rw [hgood]; rfl))
            clear hgood
            go_wp2_with fail
            ((refine hw16.mono ?_); rintro r w1 ⟨rfl, k1, k2⟩)
            go_wp2_with fail
            go_returns
            exact ⟨rfl, by rw [Hfin.out]; exact k1, grown_trans hgf k2⟩
          · obtain ⟨k', rfl⟩ : ∃ k', k = k' + 1 := ⟨k - 1, by omega⟩
            have hde : ((deep : Int) == 5) = false := by rw [beq_eq_false_iff_ne]; omega
            obtain ⟨l2, hl4⟩ := get_lt (l := s) (i := tn) (by rw [← Hn.out]; omega)
            obtain ⟨bs2, offs2, al2, capl2, hsa2, -, hcl2, -, hlm2, -, -⟩ := (Hhs.out).at_ hl4
            simp only [Option.some.injEq, Addr.mk.injEq] at hsa2
            obtain ⟨rfl, rfl, _⟩ := hsa2
            have hz6 := typeL_six Hx.out.hr (tn : Int)
            have Hz := hid (typeL_at hl4)
            rw [Hz.out] at hz6
            obtain ⟨z, hz⟩ : ∃ z, z = l2.length := ⟨_, rfl⟩
            rw [← hz] at hz6 hcl2
            have hlmz : z ≤ 2 ^ 63 - 1 := by omega
            have hclf := (hbrf.cell (p := ⟨bs, offs + tn, none⟩) hbs).trans hcl2
            have hnz : num * z ≤ 72 := Nat.le_trans (Nat.mul_le_mul (show num ≤ 12 by omega) hz6) (by omega)
            have hmul : IntKind.i64.wrap ((num : Int) * (z : Int)) = ((num * z : Nat) : Int) := by rw [← Int.natCast_mul]; exact IntWalk.i64_in _ (by omega)
            have hg2 : runN F (i + 1) c = (match clV L ci (p + off) (num * z) p with
                | (c', none) => runN (fun (j : Nat) c => visN s ws k' (tn : Int) (p + off + j * z) c) num c'
                | (c', some e) => (c', some e)) := by rw [hgood, HL.out, hz, ← Hz.out]; rfl
            have hcm := rclaim_any g ci L cap (p + off) (num * z) p (some ⟨bw, offw, none⟩) wf hLf (by omega) (by omega) (by omega) (by omega) (by omega)
            obtain ⟨⟨c2, e2⟩, hC⟩ : ∃ r, clV L ci (p + off) (num * z) p = r := ⟨_, rfl⟩
            rw [hC] at hg2 hcm
            have Hvis := hid (Hsub.out k' rfl)
            have Hz2 := hid hz
            clear hgood hl4 hcl2 hlm2 hz
            cases e2 with
            | some e =>
              simp only at hg2
              have he0 : (e.1 == 0) = false := by
                rw [beq_eq_false_iff_ne]
                have := (clV_bd (L := L) (c := ci) (to := p + off) (n := num * z) (p := p) (by omega) hci).code e.1 e.2 (by rw [hC])
                omega
              clear hC
              go_wp2_with fail
              ((refine hcm.mono ?_); rintro r w1 ⟨rfl, k1, k2⟩)
              have hfin := hid (show LrB w1 g (runN F (i + 1) c) ∧ w.grownBy w1 (some g) from ⟨by rw [hg2]; exact k1, grown_trans hgf k2⟩)
              clear k2 hg2 hcm
              go_wp2_with fail
              go_loopw [24] (fun jv W => jv = .int .i64 0 ∧ W = w1) (fun _ _ => 0)
              case atStart => exact ⟨rfl, rfl⟩
              case round =>
                obtain ⟨rfl, rfl⟩ := hrel
                have c9 := k1.cell 0
                simp only [LrC] at c9
                clear k1
                go_wp2_with fail
                go_roundw
                case rel => exact ⟨i + 1, by omega, by go_num, hfin.out⟩
                case measure => simp [intOf]; omega
            | none =>
              simp only at hg2
              obtain ⟨hc2e, hto, hc2L⟩ := clV_none hC
              rw [← hc2e] at hc2L
              obtain ⟨G, hG⟩ : ∃ G : Nat → Nat → LS, G = fun (j : Nat) c => visN s ws k' (tn : Int) (p + off + j * z) c := ⟨_, rfl⟩
              have HG := hid fun (j c : Nat) => show G j c = visN s ws k' (tn : Int) (p + off + j * z) c by rw [hG]
              have HGb := hid (show ∀ j, Bd ws.length (runN G j c2) from fun j => by rw [hG]; exact runN_bd (fun (i : Nat) c hc => visN_bd Hx.out.hr k' _ _ c hc) j c2 (by rw [← HL.out]; exact hc2L))
              rw [← hG] at hg2
              have Hg2 := hid hg2
              have hDc := g1
              clear hG hC hc2e hg2
              go_wp2_with fail
              ((refine hcm.mono ?_); rintro r w1 ⟨rfl, k1, k2⟩)
              clear hcm hclf
              go_wp2_with fail
              obtain ⟨wo, rfl⟩ : ∃ wo : World, wo = wr := ⟨_, rfl⟩
              go_loopw [24] (fun jv W => ∃ j : Nat, j ≤ num ∧ jv = .int .i64 j ∧ LrB W g (runN G j c2) ∧ wf.grownBy W (some g)) (fun jv _ => num - (intOf jv).toNat)
              case atStart => exact ⟨0, Nat.zero_le _, rfl, k1, k2⟩
              case round =>
                clear k1 k2
                obtain ⟨j, hj, rfl, q1, q2⟩ := hrel
                have hbd := HGb.out j
                obtain ⟨⟨cj, ej⟩, hRj⟩ : ∃ r, runN G j c2 = r := ⟨_, rfl⟩
                rw [hRj] at q1 hbd
                have HRj := hid hRj
                clear hRj
                cases ej with
                | some e =>
                  have c9 : wr.cell? ⟨g, 0, none⟩ = some (.int .i64 e.1) := q1.cell 0
                  have he0 : (e.1 == 0) = false := by rw [beq_eq_false_iff_ne]; have := hbd.code e.1 e.2 rfl; omega
                  have hfin := hid (show LrB wr g (runN F (i + 1) c) ∧ w.grownBy wr (some g) from by
                    have h := runN_bad HRj.out (num - j)
                    rw [show j + (num - j) = num by omega] at h
                    rw [Hg2.out, h]
                    exact ⟨q1, grown_trans hgf q2⟩)
                  clear q1 q2 hbd
                  by_cases hjl : j < num
                  · go_wp2_with fail
                    go_roundw
                    case rel => exact ⟨i + 1, by omega, by go_num, hfin.out⟩
                    case measure => simp [intOf]; omega
                  · obtain rfl : j = num := by omega
                    go_wp2_with fail
                    go_roundw
                    case rel => exact ⟨i + 1, by omega, by go_num, hfin.out⟩
                    case measure => simp [intOf]; omega
                | none =>
                  have hcj := hbd.ok rfl
                  rw [← HL.out] at hcj
                  simp only at hcj
                  have c9 : wr.cell? ⟨g, 0, none⟩ = some (.int .i64 0) := q1.cell 0
                  by_cases hjl : j < num
                  · have hjz : j * z + z ≤ num * z := by rw [← Nat.succ_mul]; exact Nat.mul_le_mul_right _ hjl
                    have hv := hid (Hvis.out tn (p + off + j * z) cj (deep + 1) wr (below_grown hbrf q2 (Nat.le_of_lt hLf.lt)) q1 (by rw [← HL.out]; exact hcj) (by rw [← Hn.out]; omega) (by rw [Hz.out, ← Hz2.out, ← HL.out]; omega) (by omega))
                    rw [← HL.out] at hv
                    have hnx := hid ((runN_ok HRj.out).trans (HG.out j cj))
                    rw [← hnx.out] at hv
                    have hDl := (World.cell?_of_block (a := ⟨wo.heap.size, 1, none⟩) (q2.block _ hsz (fun e => hgne (Option.some.inj e)))).trans hDc
                    have hmz : IntKind.i64.wrap ((j : Int) * (z : Int)) = ((j * z : Nat) : Int) := by rw [← Int.natCast_mul]; exact IntWalk.i64_in _ (by omega)
                    have had : IntKind.i64.wrap (((p + off : Nat) : Int) + ((j * z : Nat) : Int)) = ((p + off + j * z : Nat) : Int) := by rw [← Int.natCast_add]; exact IntWalk.i64_in _ (by omega)
                    have hde1 : IntKind.i64.wrap ((deep : Int) + 1) = ((deep + 1 : Nat) : Int) := by rw [← Int.natCast_one, ← Int.natCast_add]; exact IntWalk.i64_in _ (by omega)
                    clear hbd q1
                    generalize j * z = jz at *
                    go_wp2_with fail
                    ((refine hv.out.mono ?_); rintro r w2 ⟨rfl, v1, v2⟩)
                    have hk := hid (grown_trans q2 v2)
                    clear v2 q2 hDl c9
                    go_wp2_with fail
                    go_roundw
                    case rel => exact ⟨j + 1, by omega, by go_num, v1, hk.out⟩
                    case measure => simp [intOf]; omega
                  · obtain rfl : num = j := by omega
                    have hfin := hid (show LrB wr g (runN F (i + 1) c) ∧ w.grownBy wr (some g) from by
                      rw [Hg2.out, HRj.out]
                      exact ⟨q1, grown_trans hgf q2⟩)
                    clear q1 q2 hbd
                    go_wp2_with fail
                    go_roundw
                    case rel => exact ⟨i + 1, by omega, by go_num, hfin.out⟩
                    case measure => simp [intOf]; omega
        · rw [show mostN 5 = 12 from rfl] at Hgood Hbad
          by_cases hbad : off = 0 ∨ num = 0 ∨ 12 < num
          · have Hfin := hid (Hend.out _ _ (Hbad.out hbad))
            by_cases ho : off = 0
            · subst ho
              clear hbad hpo
              go_wp2_with fail
              ((refine hwr10.mono ?_); rintro r w1 ⟨rfl, k1, k2⟩)
              go_wp2_with fail
              go_returns
              exact ⟨rfl, by rw [Hfin.out]; exact k1, grown_trans hgf k2⟩
            · have hoff0 : ((off : Int) == 0) = false := by rw [beq_eq_false_iff_ne]; omega
              by_cases hn : num = 0
              · subst hn
                clear hbad ho
                go_wp2_with fail
                ((refine hwr10.mono ?_); rintro r w1 ⟨rfl, k1, k2⟩)
                go_wp2_with fail
                go_returns
                exact ⟨rfl, by rw [Hfin.out]; exact k1, grown_trans hgf k2⟩
              · have hnum0 : ((num : Int) == 0) = false := by rw [beq_eq_false_iff_ne]; omega
                have hgt : (12 : Int) < (num : Int) := by omega
                clear hbad ho hn
                go_wp2_with fail
                ((refine hwr10.mono ?_); rintro r w1 ⟨rfl, k1, k2⟩)
                go_wp2_with fail
                go_returns
                exact ⟨rfl, by rw [Hfin.out]; exact k1, grown_trans hgf k2⟩
          have hoff0 : ((off : Int) == 0) = false := by rw [beq_eq_false_iff_ne]; omega
          have hnum0 : ((num : Int) == 0) = false := by rw [beq_eq_false_iff_ne]; omega
          have hle : (num : Int) ≤ (12 : Int) := by omega
          have hnp : 0 < num := by omega
          have hgood := Hgood.out hbad
          clear Hgood Hbad hbad hwr10
          by_cases hk0 : k = 0
          · subst hk0
            obtain rfl : deep = 5 := by omega
            have hw16 := Hwr.out ci 16 wf hLf
            have Hfin := hid (Hend.out ci (16, p) (by rw [hgood]; rfl))
            clear hgood
            go_wp2_with fail
            ((refine hw16.mono ?_); rintro r w1 ⟨rfl, k1, k2⟩)
            go_wp2_with fail
            go_returns
            exact ⟨rfl, by rw [Hfin.out]; exact k1, grown_trans hgf k2⟩
          · obtain ⟨k', rfl⟩ : ∃ k', k = k' + 1 := ⟨k - 1, by omega⟩
            have hde : ((deep : Int) == 5) = false := by rw [beq_eq_false_iff_ne]; omega
            obtain ⟨l2, hl4⟩ := get_lt (l := s) (i := tn) (by rw [← Hn.out]; omega)
            obtain ⟨bs2, offs2, al2, capl2, hsa2, -, hcl2, -, hlm2, -, -⟩ := (Hhs.out).at_ hl4
            simp only [Option.some.injEq, Addr.mk.injEq] at hsa2
            obtain ⟨rfl, rfl, _⟩ := hsa2
            have hz6 := typeL_six Hx.out.hr (tn : Int)
            have Hz := hid (typeL_at hl4)
            rw [Hz.out] at hz6
            obtain ⟨z, hz⟩ : ∃ z, z = l2.length := ⟨_, rfl⟩
            rw [← hz] at hz6 hcl2
            have hlmz : z ≤ 2 ^ 63 - 1 := by omega
            have hclf := (hbrf.cell (p := ⟨bs, offs + tn, none⟩) hbs).trans hcl2
            have hnz : num * z ≤ 72 := Nat.le_trans (Nat.mul_le_mul (show num ≤ 12 by omega) hz6) (by omega)
            have hmul : IntKind.i64.wrap ((num : Int) * (z : Int)) = ((num * z : Nat) : Int) := by rw [← Int.natCast_mul]; exact IntWalk.i64_in _ (by omega)
            have hg2 : runN F (i + 1) c = (match clV L ci (p + off) (num * z) p with
                | (c', none) => runN (fun (j : Nat) c => visN s ws k' (tn : Int) (p + off + j * z) c) num c'
                | (c', some e) => (c', some e)) := by rw [hgood, HL.out, hz, ← Hz.out]; rfl
            have hcm := rclaim_any g ci L cap (p + off) (num * z) p (some ⟨bw, offw, none⟩) wf hLf (by omega) (by omega) (by omega) (by omega) (by omega)
            obtain ⟨⟨c2, e2⟩, hC⟩ : ∃ r, clV L ci (p + off) (num * z) p = r := ⟨_, rfl⟩
            rw [hC] at hg2 hcm
            have Hvis := hid (Hsub.out k' rfl)
            have Hz2 := hid hz
            clear hgood hl4 hcl2 hlm2 hz
            cases e2 with
            | some e =>
              simp only at hg2
              have he0 : (e.1 == 0) = false := by
                rw [beq_eq_false_iff_ne]
                have := (clV_bd (L := L) (c := ci) (to := p + off) (n := num * z) (p := p) (by omega) hci).code e.1 e.2 (by rw [hC])
                omega
              clear hC
              go_wp2_with fail
              ((refine hcm.mono ?_); rintro r w1 ⟨rfl, k1, k2⟩)
              have hfin := hid (show LrB w1 g (runN F (i + 1) c) ∧ w.grownBy w1 (some g) from ⟨by rw [hg2]; exact k1, grown_trans hgf k2⟩)
              clear k2 hg2 hcm
              go_wp2_with fail
              go_loopw [24] (fun jv W => jv = .int .i64 0 ∧ W = w1) (fun _ _ => 0)
              case atStart => exact ⟨rfl, rfl⟩
              case round =>
                obtain ⟨rfl, rfl⟩ := hrel
                have c9 := k1.cell 0
                simp only [LrC] at c9
                clear k1
                go_wp2_with fail
                go_roundw
                case rel => exact ⟨i + 1, by omega, by go_num, hfin.out⟩
                case measure => simp [intOf]; omega
            | none =>
              simp only at hg2
              obtain ⟨hc2e, hto, hc2L⟩ := clV_none hC
              rw [← hc2e] at hc2L
              obtain ⟨G, hG⟩ : ∃ G : Nat → Nat → LS, G = fun (j : Nat) c => visN s ws k' (tn : Int) (p + off + j * z) c := ⟨_, rfl⟩
              have HG := hid fun (j c : Nat) => show G j c = visN s ws k' (tn : Int) (p + off + j * z) c by rw [hG]
              have HGb := hid (show ∀ j, Bd ws.length (runN G j c2) from fun j => by rw [hG]; exact runN_bd (fun (i : Nat) c hc => visN_bd Hx.out.hr k' _ _ c hc) j c2 (by rw [← HL.out]; exact hc2L))
              rw [← hG] at hg2
              have Hg2 := hid hg2
              have hDc := g1
              clear hG hC hc2e hg2
              go_wp2_with fail
              ((refine hcm.mono ?_); rintro r w1 ⟨rfl, k1, k2⟩)
              clear hcm hclf
              go_wp2_with fail
              obtain ⟨wo, rfl⟩ : ∃ wo : World, wo = wr := ⟨_, rfl⟩
              go_loopw [24] (fun jv W => ∃ j : Nat, j ≤ num ∧ jv = .int .i64 j ∧ LrB W g (runN G j c2) ∧ wf.grownBy W (some g)) (fun jv _ => num - (intOf jv).toNat)
              case atStart => exact ⟨0, Nat.zero_le _, rfl, k1, k2⟩
              case round =>
                clear k1 k2
                obtain ⟨j, hj, rfl, q1, q2⟩ := hrel
                have hbd := HGb.out j
                obtain ⟨⟨cj, ej⟩, hRj⟩ : ∃ r, runN G j c2 = r := ⟨_, rfl⟩
                rw [hRj] at q1 hbd
                have HRj := hid hRj
                clear hRj
                cases ej with
                | some e =>
                  have c9 : wr.cell? ⟨g, 0, none⟩ = some (.int .i64 e.1) := q1.cell 0
                  have he0 : (e.1 == 0) = false := by rw [beq_eq_false_iff_ne]; have := hbd.code e.1 e.2 rfl; omega
                  have hfin := hid (show LrB wr g (runN F (i + 1) c) ∧ w.grownBy wr (some g) from by
                    have h := runN_bad HRj.out (num - j)
                    rw [show j + (num - j) = num by omega] at h
                    rw [Hg2.out, h]
                    exact ⟨q1, grown_trans hgf q2⟩)
                  clear q1 q2 hbd
                  by_cases hjl : j < num
                  · go_wp2_with fail
                    go_roundw
                    case rel => exact ⟨i + 1, by omega, by go_num, hfin.out⟩
                    case measure => simp [intOf]; omega
                  · obtain rfl : j = num := by omega
                    go_wp2_with fail
                    go_roundw
                    case rel => exact ⟨i + 1, by omega, by go_num, hfin.out⟩
                    case measure => simp [intOf]; omega
                | none =>
                  have hcj := hbd.ok rfl
                  rw [← HL.out] at hcj
                  simp only at hcj
                  have c9 : wr.cell? ⟨g, 0, none⟩ = some (.int .i64 0) := q1.cell 0
                  by_cases hjl : j < num
                  · have hjz : j * z + z ≤ num * z := by rw [← Nat.succ_mul]; exact Nat.mul_le_mul_right _ hjl
                    have hv := hid (Hvis.out tn (p + off + j * z) cj (deep + 1) wr (below_grown hbrf q2 (Nat.le_of_lt hLf.lt)) q1 (by rw [← HL.out]; exact hcj) (by rw [← Hn.out]; omega) (by rw [Hz.out, ← Hz2.out, ← HL.out]; omega) (by omega))
                    rw [← HL.out] at hv
                    have hnx := hid ((runN_ok HRj.out).trans (HG.out j cj))
                    rw [← hnx.out] at hv
                    have hDl := (World.cell?_of_block (a := ⟨wo.heap.size, 1, none⟩) (q2.block _ hsz (fun e => hgne (Option.some.inj e)))).trans hDc
                    have hmz : IntKind.i64.wrap ((j : Int) * (z : Int)) = ((j * z : Nat) : Int) := by rw [← Int.natCast_mul]; exact IntWalk.i64_in _ (by omega)
                    have had : IntKind.i64.wrap (((p + off : Nat) : Int) + ((j * z : Nat) : Int)) = ((p + off + j * z : Nat) : Int) := by rw [← Int.natCast_add]; exact IntWalk.i64_in _ (by omega)
                    have hde1 : IntKind.i64.wrap ((deep : Int) + 1) = ((deep + 1 : Nat) : Int) := by rw [← Int.natCast_one, ← Int.natCast_add]; exact IntWalk.i64_in _ (by omega)
                    clear hbd q1
                    generalize j * z = jz at *
                    go_wp2_with fail
                    ((refine hv.out.mono ?_); rintro r w2 ⟨rfl, v1, v2⟩)
                    have hk := hid (grown_trans q2 v2)
                    clear v2 q2 hDl c9
                    go_wp2_with fail
                    go_roundw
                    case rel => exact ⟨j + 1, by omega, by go_num, v1, hk.out⟩
                    case measure => simp [intOf]; omega
                  · obtain rfl : num = j := by omega
                    have hfin := hid (show LrB wr g (runN F (i + 1) c) ∧ w.grownBy wr (some g) from by
                      rw [Hg2.out, HRj.out]
                      exact ⟨q1, grown_trans hgf q2⟩)
                    clear q1 q2 hbd
                    go_wp2_with fail
                    go_roundw
                    case rel => exact ⟨i + 1, by omega, by go_num, hfin.out⟩
                    case measure => simp [intOf]; omega
      · obtain rfl : i = m := by omega
        have hfin := hid (show LrB wr g (runN F i c) ∧ w.grownBy wr (some g) by rw [HR.out]; exact ⟨hLr, hgr⟩)
        clear hLr hgr hbr
        go_wp2_with fail
        go_returns
        exact ⟨rfl, hfin.out⟩

/-- A struct, as deep as it may be. -/
theorem rvisit_any {s : Schema} {ws : List (BitVec 64)} {sv : Value} {a : Option Addr} {cap g : Nat} {w0 : World} (hx : Lx s ws sv a cap g w0) : ∀ k, RVisC s ws sv a cap g w0 k
  | 0 => rvisit_step hx 0 fun k' h => absurd h (by omega)
  | k + 1 => rvisit_step hx (k + 1) fun k' h => (show k = k' by omega) ▸ rvisit_any hx k
end SRVisit

end Go.Proofs.YtblbhlgihlgncaaDoor


/- The law's count: whatever struct. -/
import Derived.Test.YtogaclolodlnbaaDoorCntV
set_option linter.unusedVariables false
set_option linter.unusedSimpArgs false
namespace Go.Proofs.YtogaclolodlnbaaDoor
section SCount
open Go.RowKit

def CntC (s : Schema) (sv wv : Value) (ws : List (BitVec 64)) (w0 : World) (d left : Nat) : Prop := ∀ (t : Nat) (v : St d) (p lo base g L c : Nat) (A : Nat → Int) (w : World), Sch w0 sv s → t < s.length → codeT s d left t v = 0 →
    Row w0 1 wv L (ws.map U) → LieS s d t v ws p lo → w0.heap.size ≤ base → Below base w0 w → base ≤ w.heap.size → w.ownsRow base 3 1 (.slice (some ⟨g, 0, none⟩) L c) L (cntL L A) → L = ws.length → L ≤ 200 → left ≤ 100 → 1 ≤ p → p + nkT d v ≤ lo → lo + belowT d v ≤ L →
    Calls Tryd.prog 31 #[sv, .int .i64 t, wv, .int .i64 p, .slice (some ⟨g, 0, none⟩) L c, .int .i64 left] w fun e w' => e = .returned (.bool true) ∧ CntS w w' base g L c (addV lo (belowT d v) (addV p (nkT d v) A))

set_option maxRecDepth 100000 in
set_option maxHeartbeats 16000000 in
theorem cnt_step (s : Schema) (hr : rightB s = true) (sv wv : Value) (ws : List (BitVec 64)) (w0 : World) (d left : Nat) (ihd : CntC s sv wv ws w0 d (left - 1)) : CntC s sv wv ws w0 (d + 1) left := by
  intro t v p lo base g L c A w hs ht hc hrow hlie h0 hb0 hbw hown hL hL2 hleft hp hplo hloL
  have ih := hid ihd
  have hc0 := (code_struct hc).1
  have hf := (code_struct hc).2.2.2.2.2
  have hnT := (code_struct hc).2.2.2.2.1
  obtain ⟨l, hl3⟩ := get_lt (l := s) (i := t) ht
  have hTl := typeL_at hl3
  obtain ⟨bs, offs, al, capl, hsv, hbs, hcl, hfl, hlm, hlc, hcm⟩ : ∃ b off a2 cap2, (∃ n c, sv = .slice (some ⟨b, off, none⟩) n c ∧ n = s.length ∧ n ≤ c ∧ c ≤ maxLen) ∧ b < w0.heap.size ∧ w0.cell? ⟨b, off + t, none⟩ = some (.slice a2 l.length cap2) ∧ Flds w0 (.slice a2 l.length cap2) l ∧ l.length ≤ maxLen ∧ l.length ≤ cap2 ∧ cap2 ≤ maxLen := by
    obtain ⟨sa, sc, rfl, g1, g2, g3⟩ := hs.shape
    obtain ⟨b, off, a2, cap2, rfl, k1, k2, k3, k4⟩ := hs.at_ hl3
    exact ⟨b, off, a2, cap2, ⟨_, sc, rfl, rfl, g1, g2⟩, k1, k2, k3, k4⟩
  obtain ⟨sn, sc, rfl, hsn, hsc, hscm⟩ := hsv
  have Hsn := hid hsn
  have ht0 := hid ht
  rw [← hsn] at ht
  obtain ⟨ml, hml⟩ : ∃ ml, ml = l.length := ⟨_, rfl⟩
  rw [← hml] at hcl hlm hlc
  unfold maxLen at hlm hcm hscm
  obtain ⟨N, hN⟩ : ∃ N, N = (Node.kids v).length := ⟨_, rfl⟩
  have HN := hid hN
  have hNm := hid (show N = ml by rw [hN, hnT, hTl, hml])
  have hpN : p + N ≤ lo := by rw [hN]; exact hplo
  have hbel : lo + sumL (fszT d) (Node.kids v) ≤ L := hloL
  obtain ⟨wb, wo, wc, rfl, hwc1, hwc2, hwb, hwcell⟩ := hrow.cons (by omega)
  unfold maxLen at hwc2
  have Hword := hid (show ∀ (q : Nat) (x : BitVec 64), ws[q]? = some x → ∀ W, Below base w0 W → W.cell? ⟨wb, wo + q, none⟩ = some (U x) from fun q x e W hW => by
    have hq : q < ws.length := (List.getElem?_eq_some_iff.1 e).1
    rw [hW.cell (p := ⟨wb, wo + q, none⟩) (Nat.lt_of_lt_of_le hwb h0), hwcell q (by omega), List.getElem?_map, e]; rfl)
  have Hgoal := hid (show addV lo (belowT (d + 1) v) (addV p (nkT (d + 1) v) A) = addV lo (sumL (fszT d) (Node.kids v)) (addV p N A) by rw [hN]; rfl)
  have Hf := hid hf
  have Hs0 := hid hs
  have HB0 := hid hb0
  have Hrow := hid hrow
  have Hlie := hid hlie
  have Hfl := hid hfl
  have Hl := hid hl3
  have HTl := hid hTl
  have Hml := hid hml
  have HL := hid hL
  have hgl0 := (CntS.refl hown).lt
  have hCnt : CntS w w base g L c (addV lo (sumL (fszT d) ((Node.kids v).take 0)) (addV p 0 A)) := by
    rw [addV_zero, List.take_zero, sumL_nil, addV_zero]; exact CntS.refl hown
  have hl1 : ((left - 1 : Nat) : Int) = (left : Int) - 1 := by omega
  have hcm0 := hb0.trans ((Below.refl base w))
  have hcs0 := (hb0.cell (Nat.lt_of_lt_of_le hbs h0)).trans hcl
  rw [Hgoal.out]
  have hNm' : ml = N := hNm.out.symm
  subst hNm'
  clear hs hf hrow hlie hfl hl3 hTl hml hN hc hnT hsn hplo hloL ihd hwcell hown hL hcm0
  have v1 : ((left : Int) == 0) = false := by rw [beq_eq_false_iff_ne]; omega
  have v2 : decide ((p : Int) < 1) = false := decide_eq_false (by omega)
  have v3 : decide ((L : Int) < (p : Int) + (ml : Int)) = false := decide_eq_false (by omega)
  go_enter Tryd.func31, Tryd.ntmps31
  go_wp2_with fail
  clear hcs0 v1 v2 v3
  go_loopw [13] (fun i wr => ∃ k : Nat, k ≤ ml ∧ i = .int .i64 k ∧ CntS w wr base g L c (addV lo (sumL (fszT d) ((Node.kids v).take k)) (addV p k A))) (fun i _ => ml - (intOf i).toNat)
  case atStart => exact ⟨0, Nat.zero_le _, rfl, hCnt⟩
  case round =>
    clear hCnt
    obtain ⟨k, hkN, rfl, hFr⟩ := hrel
    have hbr := HB0.out.trans hFr.below
    have hcs := (hbr.cell (Nat.lt_of_lt_of_le hbs h0)).trans hcl
    by_cases hlt : k < ml
    · obtain ⟨fk, hfk⟩ := get_lt (l := Node.kids v) (i := k) (by rw [← HN.out]; exact hlt)
      obtain ⟨hb, hx⟩ := Hf.out k fk hfk
      obtain ⟨⟨kd, ty⟩, hpf⟩ := get_lt (l := l) (i := k) (by rw [← Hml.out]; exact hlt)
      obtain ⟨bl, offl, hal, hbbl, r0, r1⟩ := Hfl.out.at_ hpf
      subst hal
      simp only at r0 r1
      obtain ⟨-, -, hty0, htyn, -⟩ := right_at hr Hl.out hpf
      simp only at hty0 htyn
      obtain ⟨tn, rfl⟩ : ∃ tn : Nat, ty = (tn : Int) := ⟨ty.toNat, by omega⟩
      have htn : tn < sn := by rw [Hsn.out]; omega
      have hFp : fieldP s t k = (kd, (tn : Int)) := fieldP_at (by rw [HTl.out]; exact hpf)
      have hLF := Hlie.out k fk hfk
      rw [hFp] at hb hx hLF
      simp only at hb hx hLF
      have hle := sumL_take_at (fszT d) (Node.kids v) k fk hfk
      have hsucc := sumL_succ (fszT d) (Node.kids v) k fk hfk
      obtain ⟨S1, hS1⟩ : ∃ S1, S1 = sumL (fszT d) ((Node.kids v).take k) := ⟨_, rfl⟩
      rw [← hS1] at hle hsucc hLF hFr
      have hfield := cnt_field p lo k S1 (fszT d fk) A
      rw [← hsucc] at hfield
      have Hfield := hid hfield
      obtain ⟨A1, hA1⟩ : ∃ A1, A1 = addV lo S1 (addV p k A) := ⟨_, rfl⟩
      rw [← hA1] at hFr Hfield
      obtain ⟨lk, hlk⟩ : ∃ lk, lk = lo + S1 := ⟨_, rfl⟩
      rw [← hlk] at hLF Hfield
      have hlkL : lk + fszT d fk ≤ L := by omega
      have hpk : p + k < L := by omega
      have hpk2 : p + k < lk := by omega
      have hfz : fszT d fk = (fk.bytes.size + 7) / 8 + fk.nums.length + sumL (wordsT d) fk.kids := rfl
      obtain ⟨c0, cf, hW1⟩ := hFr.word hpk
      obtain ⟨A2, hA2⟩ : ∃ A2, A2 = addV (p + k) 1 A1 := ⟨_, rfl⟩
      rw [← hA2] at hW1 Hfield
      obtain ⟨x1, hx1⟩ : ∃ x1, x1 = A1 (p + k) := ⟨_, rfl⟩
      rw [← hx1] at c0 hW1
      have hgr := hFr.lt
      obtain ⟨wa, hwa⟩ : ∃ wa, wr.setCell ⟨g, p + k, none⟩ (.int .i64 (wrap64 (x1 + 1))) = wa := ⟨_, rfl⟩
      rw [hwa] at hW1
      have hbra := HB0.out.trans hW1.below
      have hcsa := (hbra.cell (Nat.lt_of_lt_of_le hbs h0)).trans hcl
      replace r0 := (hbra.cell (Nat.lt_of_lt_of_le hbbl h0)).trans r0
      replace r1 := (hbra.cell (Nat.lt_of_lt_of_le hbbl h0)).trans r1
      obtain ⟨wf, hwf, hbf, hltf, hboxf⟩ := boxed wa #[.int .i64 kd, .int .i64 (tn : Int)] 61
      have f0 : wf.cell? ⟨wa.heap.size, 0, none⟩ = some (.int .i64 kd) := hboxf 0
      have f1 : wf.cell? ⟨wa.heap.size, 1, none⟩ = some (.int .i64 (tn : Int)) := hboxf 1
      have hbwa : base ≤ wa.heap.size := Nat.le_trans hbw hW1.below.size
      have hWf := hW1.later hbwa hbf
      have hbwf : base ≤ wf.heap.size := Nat.le_trans hbwa hbf.size
      have hgf : g ≠ wa.heap.size := by have := hW1.lt; omega
      have hbrf := HB0.out.trans hWf.below
      have Hb := hid hb
      have Hx := hid hx
      have HW := hid hWf
      clear hb hx hboxf hFr hA1 hS1 hlk hpf hfk hsucc hA2 hx1 hfield hW1
      by_cases e1 : kd = 1
      · subst e1
        obtain ⟨z1, z2, z3⟩ := hasB_num Hb.out rfl
        have hz : fszT d fk = 0 := by rw [hfz, z1, z2, List.eq_nil_of_length_eq_zero z3]; rfl
        have hfin := hid (show CntS w wf base g L c (addV lo (sumL (fszT d) ((Node.kids v).take (k + 1))) (addV p (k + 1) A)) by
          have h := Hfield.out
          rw [hz, addV_zero] at h
          rw [← h]; exact HW.out)
        clear hWf hz hfz
        go_wp2_with fail
        go_roundw
        case rel => exact ⟨k + 1, by omega, by go_num, hfin.out⟩
        case measure => simp [intOf]; omega
      have d1 : (kd == 1) = false := by rw [beq_eq_false_iff_ne]; exact e1
      unfold LieF at hLF
      rw [if_neg e1] at hLF
      by_cases e2 : kd = 2
      · subst e2
  
        rw [if_pos rfl] at hLF
        obtain ⟨z0, z2, z3, hn40⟩ := hasB_bytes Hb.out rfl
        have hz : fszT d fk = (fk.bytes.size + 7) / 8 := by rw [hfz, z2, List.eq_nil_of_length_eq_zero z3]; rfl
        obtain ⟨n, hn⟩ : ∃ n, n = fk.bytes.size := ⟨_, rfl⟩
        rw [← hn] at hLF hz hn40
        have hRW := hLF.1
        unfold RefW at hRW
        clear hLF hn
        by_cases hn0 : n = 0
        · rw [if_pos hn0] at hRW
          have hwd := Hword.out _ _ hRW wf hbrf
          have hfin := hid (show CntS w wf base g L c (addV lo (sumL (fszT d) ((Node.kids v).take (k + 1))) (addV p (k + 1) A)) by
            have h := Hfield.out
            rw [hz, show (n + 7) / 8 = 0 by omega, addV_zero] at h
            rw [← h]; exact HW.out)
          clear hWf hz hfz hRW
          go_wp2_with fail
          go_roundw
          case rel => exact ⟨k + 1, by omega, by go_num, hfin.out⟩
          case measure => simp [intOf]; omega
        rw [if_neg hn0] at hRW
        obtain ⟨M2, hM2⟩ : ∃ M2, M2 = (n + 7) / 8 := ⟨_, rfl⟩
        rw [← hM2] at hz
        rw [hz] at hlkL Hfield
        obtain ⟨o, rfl⟩ : ∃ o, lk = p + k + o := ⟨lk - (p + k), by omega⟩
        have hwd := Hword.out _ _ hRW wf hbrf
        obtain ⟨g1, g2⟩ := lo_ref_at (a := p + k) (o := o) (n := n) (by omega) (by omega)
        have hne := ref_ne (a := ((p + k + o : Nat) : Int) - ((p + k : Nat) : Int)) hn0 (by omega)
        obtain ⟨x, hx⟩ : ∃ x, x = refV (((p + k + o : Nat) : Int) - ((p + k : Nat) : Int)) (n : Int) := ⟨_, rfl⟩
        rw [← hx] at hwd g1 g2 hne
        have hpart := part_any x wf
        rw [g1, g2] at hpart
        have hxn : (x == 0#64) = false := by rw [beq_eq_false_iff_ne]; exact hne
        have hd1 : decide ((200 : Int) < (o : Int)) = false := decide_eq_false (by omega)
        have hd2 : decide ((200 : Int) < (n : Int)) = false := decide_eq_false (by omega)
        have hd3 : decide ((L : Int) < (p : Int) + (k : Int) + (o : Int)) = false := decide_eq_false (by omega)
        clear hRW hx g1 g2 hz hfz
        go_wp2_with fail
        ((refine hpart.mono ?_); rintro r5 w5 ⟨rfl, rfl⟩)
        clear hpart
        go_wp2_with fail
        have hnM : ((n : Int) + 7) / 8 = (M2 : Int) := by omega
        rw [hnM]
        clear hnM hM2
        have hw5 : CntS w w5 base g L c (addV (p + k + o) 0 A2) := by rw [addV_zero]; exact hWf
        clear hWf
        go_loopw [18] (fun i wj => ∃ j : Nat, j ≤ M2 ∧ i = .int .i64 j ∧ CntS w wj base g L c (addV (p + k + o) j A2)) (fun i _ => M2 - (intOf i).toNat)
        case atStart => exact ⟨0, Nat.zero_le _, rfl, hw5⟩
        case round =>
          clear hw5
          obtain ⟨j, hjM, rfl, hFj⟩ := hrel
          by_cases hltj : j < M2
          · obtain ⟨b0, b1, hWj⟩ := hFj.word (o := p + k + o + j) (by omega)
            rw [addV_app] at hWj
            have hj4 : decide ((L : Int) ≤ (p : Int) + (k : Int) + (o : Int) + (j : Int)) = false := decide_eq_false (by omega)
            obtain ⟨x2, hx2⟩ : ∃ x2, x2 = addV (p + k + o) j A2 (p + k + o + j) := ⟨_, rfl⟩
            rw [← hx2] at b0 hWj
            have hWj2 := hid hWj
            clear hFj hx2 hWj
            go_wp2_with fail
            go_roundw
            case rel => exact ⟨j + 1, by omega, by go_num, hWj2.out⟩
            case measure => simp [intOf]; omega
          · obtain rfl : j = M2 := by omega
            clear hltj
            have hfin := hid (show CntS w wr base g L c (addV lo (sumL (fszT d) ((Node.kids v).take (k + 1))) (addV p (k + 1) A)) by rw [← Hfield.out]; exact hFj)
            clear hFj
            go_wp2_with fail
            go_roundw
            case rel => exact ⟨k + 1, by omega, by go_num, hfin.out⟩
            case measure => simp [intOf]; omega
      by_cases e3 : kd = 3
      · subst e3
        rw [if_neg (by decide)] at hLF
        rw [if_pos rfl] at hLF
        obtain ⟨z0, z2, z3, hn40⟩ := hasB_nums Hb.out rfl
        have hz : fszT d fk = fk.nums.length := by rw [hfz, z2, List.eq_nil_of_length_eq_zero z3]; simp [sumL_nil]
        obtain ⟨n, hn⟩ : ∃ n, n = fk.nums.length := ⟨_, rfl⟩
        rw [← hn] at hLF hz hn40
        have hRW := hLF.1
        unfold RefW at hRW
        clear hLF hn
        by_cases hn0 : n = 0
        · rw [if_pos hn0] at hRW
          have hwd := Hword.out _ _ hRW wf hbrf
          have hfin := hid (show CntS w wf base g L c (addV lo (sumL (fszT d) ((Node.kids v).take (k + 1))) (addV p (k + 1) A)) by
            have h := Hfield.out
            rw [hz, show n = 0 by omega, addV_zero] at h
            rw [← h]; exact HW.out)
          clear hWf hz hfz hRW
          go_wp2_with fail
          go_roundw
          case rel => exact ⟨k + 1, by omega, by go_num, hfin.out⟩
          case measure => simp [intOf]; omega
        rw [if_neg hn0] at hRW
        obtain ⟨M2, hM2⟩ : ∃ M2, M2 = n := ⟨_, rfl⟩
        rw [← hM2] at hz
        rw [hz] at hlkL Hfield
        obtain ⟨o, rfl⟩ : ∃ o, lk = p + k + o := ⟨lk - (p + k), by omega⟩
        have hwd := Hword.out _ _ hRW wf hbrf
        obtain ⟨g1, g2⟩ := lo_ref_at (a := p + k) (o := o) (n := n) (by omega) (by omega)
        have hne := ref_ne (a := ((p + k + o : Nat) : Int) - ((p + k : Nat) : Int)) hn0 (by omega)
        obtain ⟨x, hx⟩ : ∃ x, x = refV (((p + k + o : Nat) : Int) - ((p + k : Nat) : Int)) (n : Int) := ⟨_, rfl⟩
        rw [← hx] at hwd g1 g2 hne
        have hpart := part_any x wf
        rw [g1, g2] at hpart
        have hxn : (x == 0#64) = false := by rw [beq_eq_false_iff_ne]; exact hne
        have hd1 : decide ((200 : Int) < (o : Int)) = false := decide_eq_false (by omega)
        have hd2 : decide ((200 : Int) < (n : Int)) = false := decide_eq_false (by omega)
        have hd3 : decide ((L : Int) < (p : Int) + (k : Int) + (o : Int)) = false := decide_eq_false (by omega)
        clear hRW hx g1 g2 hz hfz
        go_wp2_with fail
        ((refine hpart.mono ?_); rintro r5 w5 ⟨rfl, rfl⟩)
        clear hpart
        go_wp2_with fail
        have hnM : (n : Int) = (M2 : Int) := by omega
        rw [hnM]
        clear hnM hM2
        have hw5 : CntS w w5 base g L c (addV (p + k + o) 0 A2) := by rw [addV_zero]; exact hWf
        clear hWf
        go_loopw [18] (fun i wj => ∃ j : Nat, j ≤ M2 ∧ i = .int .i64 j ∧ CntS w wj base g L c (addV (p + k + o) j A2)) (fun i _ => M2 - (intOf i).toNat)
        case atStart => exact ⟨0, Nat.zero_le _, rfl, hw5⟩
        case round =>
          clear hw5
          obtain ⟨j, hjM, rfl, hFj⟩ := hrel
          by_cases hltj : j < M2
          · obtain ⟨b0, b1, hWj⟩ := hFj.word (o := p + k + o + j) (by omega)
            rw [addV_app] at hWj
            have hj4 : decide ((L : Int) ≤ (p : Int) + (k : Int) + (o : Int) + (j : Int)) = false := decide_eq_false (by omega)
            obtain ⟨x2, hx2⟩ : ∃ x2, x2 = addV (p + k + o) j A2 (p + k + o + j) := ⟨_, rfl⟩
            rw [← hx2] at b0 hWj
            have hWj2 := hid hWj
            clear hFj hx2 hWj
            go_wp2_with fail
            go_roundw
            case rel => exact ⟨j + 1, by omega, by go_num, hWj2.out⟩
            case measure => simp [intOf]; omega
          · obtain rfl : j = M2 := by omega
            clear hltj
            have hfin := hid (show CntS w wr base g L c (addV lo (sumL (fszT d) ((Node.kids v).take (k + 1))) (addV p (k + 1) A)) by rw [← Hfield.out]; exact hFj)
            clear hFj
            go_wp2_with fail
            go_roundw
            case rel => exact ⟨k + 1, by omega, by go_num, hfin.out⟩
            case measure => simp [intOf]; omega
      have d2 : (kd == 2) = false := by rw [beq_eq_false_iff_ne]; exact e2
      have d3 : (kd == 3) = false := by rw [beq_eq_false_iff_ne]; exact e3
      rw [if_neg e2, if_neg e3] at hLF
      obtain ⟨hk45, z0, z1, z2, hn40⟩ := hasB_kids Hb.out e1 e2 e3
      have hd4 : decide (kd < 4) = false := decide_eq_false (by omega)
      have hsw := sum_words fk.kids Hx.out
      have hz : fszT d fk = (typeL s tn).length * fk.kids.length + sumL (belowT d) fk.kids := by rw [hfz, z1, z2, hsw]; omega
      obtain ⟨nf, hnf⟩ : ∃ nf, nf = (typeL s tn).length := ⟨_, rfl⟩
      have Hnf := hid hnf
      obtain ⟨n, hn⟩ : ∃ n, n = fk.kids.length := ⟨_, rfl⟩
      have Hn := hid hn
      rw [← hn, ← hnf] at hLF
      rw [← hn, ← hnf] at hz
      rw [← hn] at hn40
      have hRW := hLF.1
      have Hkids := hid hLF.2
      unfold RefW at hRW
      clear hLF hn hnf hsw
      by_cases hn0 : n = 0
      · rw [if_pos hn0] at hRW
        have hwd := Hword.out _ _ hRW wf hbrf
        have hfin := hid (show CntS w wf base g L c (addV lo (sumL (fszT d) ((Node.kids v).take (k + 1))) (addV p (k + 1) A)) by
          have h := Hfield.out
          have hk0 : fk.kids = [] := List.eq_nil_of_length_eq_zero (by rw [← Hn.out]; exact hn0)
          rw [hz, hn0, hk0, sumL_nil, Nat.mul_zero, addV_zero] at h
          rw [← h]; exact HW.out)
        clear hWf hz hfz hRW
        go_wp2_with fail
        go_roundw
        case rel => exact ⟨k + 1, by omega, by go_num, hfin.out⟩
        case measure => simp [intOf]; omega
      rw [if_neg hn0] at hRW
      obtain ⟨o, rfl⟩ : ∃ o, lk = p + k + o := ⟨lk - (p + k), by omega⟩
      have hwd := Hword.out _ _ hRW wf hbrf
      obtain ⟨g1, g2⟩ := lo_ref_at (a := p + k) (o := o) (n := n) (by omega) (by omega)
      have hne := ref_ne (a := ((p + k + o : Nat) : Int) - ((p + k : Nat) : Int)) hn0 (by omega)
      obtain ⟨x, hx⟩ : ∃ x, x = refV (((p + k + o : Nat) : Int) - ((p + k : Nat) : Int)) (n : Int) := ⟨_, rfl⟩
      rw [← hx] at hwd g1 g2 hne
      have hpart := part_any x wf
      rw [g1, g2] at hpart
      have hxn : (x == 0#64) = false := by rw [beq_eq_false_iff_ne]; exact hne
      have hd1 : decide ((200 : Int) < (o : Int)) = false := decide_eq_false (by omega)
      have hd2 : decide ((200 : Int) < (n : Int)) = false := decide_eq_false (by omega)
      have hd3 : decide ((L : Int) < (p : Int) + (k : Int) + (o : Int)) = false := decide_eq_false (by omega)
      obtain ⟨l2, hl2⟩ := get_lt (l := s) (i := tn) (by rw [← Hsn.out]; exact htn)
      have hTl2 := typeL_at hl2
      obtain ⟨al2, cap2, hcl2, hlm2, hlc2⟩ : ∃ a2 cap2, w0.cell? ⟨bs, offs + tn, none⟩ = some (.slice a2 l2.length cap2) ∧ l2.length ≤ maxLen ∧ l2.length ≤ cap2 := by
        obtain ⟨b, off, a2, cap2, e, k1, k2, k3, k4, k5, k6⟩ := Hs0.out.at_ hl2
        simp only [Option.some.injEq, Addr.mk.injEq, and_true] at e
        obtain ⟨rfl, rfl⟩ := e
        exact ⟨a2, cap2, k2, k4, k5⟩
      rw [← hTl2, ← Hnf.out] at hcl2 hlm2 hlc2
      unfold maxLen at hlm2
      have hsum : p + k + o + nf * n + sumL (belowT d) fk.kids ≤ L := by omega
      have Hz := hid hz
      clear hRW hx g1 g2 hz hfz hl2 hTl2
      go_wp2_with fail
      ((refine hpart.mono ?_); rintro r5 w5 ⟨rfl, rfl⟩)
      clear hpart
      go_wp2_with fail
      have hw5 : CntS w5 w5 base g L c (addV (p + k + o + nf * n) (sumL (belowT d) (fk.kids.take 0)) (addV (p + k + o) (nf * 0) A2)) := by
        rw [List.take_zero, sumL_nil, addV_zero, Nat.mul_zero, addV_zero]; exact CntS.refl hWf.own
      clear hWf r0 r1 hcs hcsa c0 cf
      go_loopw [19] (fun i wj => ∃ j : Nat, j ≤ n ∧ i = .int .i64 j ∧ CntS w5 wj base g L c (addV (p + k + o + nf * n) (sumL (belowT d) (fk.kids.take j)) (addV (p + k + o) (nf * j) A2))) (fun i _ => n - (intOf i).toNat)
      case atStart => exact ⟨0, Nat.zero_le _, rfl, hw5⟩
      case round =>
        clear hw5
        obtain ⟨j, hjM, rfl, hFj⟩ := hrel
        by_cases hltj : j < n
        · obtain ⟨x9, hxj⟩ := get_lt (l := fk.kids) (i := j) (by rw [← Hn.out]; exact hltj)
          have hcx := Hx.out x9 (List.mem_of_getElem? hxj)
          have hnk : nkT d x9 = nf := by rw [Hnf.out]; exact nk_code hcx
          have hbl := sumL_take_at (belowT d) fk.kids j x9 hxj
          have hsj := sumL_succ (belowT d) fk.kids j x9 hxj
          have hly := Hkids.out j x9 hxj
          have hmj : nf * j + nf ≤ nf * n := by rw [← Nat.mul_succ]; exact Nat.mul_le_mul_left _ hltj
          have hkid := cnt_kid (p + k + o) nf n j (sumL (belowT d) (fk.kids.take j)) (belowT d x9) A2
          rw [← hsj] at hkid
          have Hkid := hid hkid
          have hbwj : base ≤ wr.heap.size := Nat.le_trans hbwf hFj.below.size
          have hbrj := hbrf.trans hFj.below
          have hcell := hid fun W (hW : CntS wr W base g L c A2 ∨ True) => hbl
          have i1 : wr.cell? ⟨wa.heap.size, 1, none⟩ = some (.int .i64 (tn : Int)) := (World.cell?_of_block (a := ⟨wa.heap.size, 1, none⟩) (hFj.keep _ hltf (Ne.symm hgf))).trans f1
          have i2 : wr.cell? ⟨bs, offs + tn, none⟩ = some (.slice al2 nf cap2) := (hbrj.cell (Nat.lt_of_lt_of_le hbs h0)).trans hcl2
          have hcells := hid (show ∀ W : World, (∀ b, b < wr.heap.size → b ≠ g → W.heap[b]? = wr.heap[b]?) → W.cell? ⟨wa.heap.size, 1, none⟩ = some (.int .i64 (tn : Int)) ∧ W.cell? ⟨bs, offs + tn, none⟩ = some (.slice al2 nf cap2) from fun W h => by
            have n1 : wa.heap.size < wr.heap.size := Nat.lt_of_lt_of_le hltf hFj.below.size
            have n2 : bs < wr.heap.size := Nat.lt_of_lt_of_le (Nat.lt_of_lt_of_le hbs h0) hbwj
            have n3 : bs ≠ g := by have := hgl0.2; omega
            exact ⟨(World.cell?_of_block (a := ⟨wa.heap.size, 1, none⟩) (h _ n1 (Ne.symm hgf))).trans i1, (World.cell?_of_block (a := ⟨bs, offs + tn, none⟩) (h _ n2 n3)).trans i2⟩)
          have hcall := hid fun W (hW : Below wr.heap.size wr W) => ih.out tn x9 (p + k + o + nf * j) (p + k + o + nf * n + sumL (belowT d) (fk.kids.take j)) base g L c _ W Hs0.out (by rw [← Hsn.out]; exact htn) hcx Hrow.out hly h0 (hbrj.trans (hW.mono hbwj)) (Nat.le_trans hbwj hW.size) (own_beneath hFj.own hW) HL.out hL2 (by omega) (by omega) (by rw [hnk]; omega) (by omega)
          rw [hnk, Hkid.out, hl1, Int.natCast_add, Int.natCast_add, Int.natCast_add, Int.natCast_mul] at hcall
          have hnj : ((nf * j : Nat) : Int) ≤ 200 := by omega
          rw [Int.natCast_mul] at hnj
          have hnj0 : (0 : Int) ≤ (nf : Int) * (j : Int) := by rw [← Int.natCast_mul]; omega
          have hmulj : IntKind.i64.wrap ((j : Int) * (nf : Int)) = (nf : Int) * (j : Int) := by rw [Int.mul_comm]; exact IntWalk.i64_in _ (by omega)
          have hsumj : IntKind.i64.wrap ((p : Int) + (k : Int) + (o : Int) + (nf : Int) * (j : Int)) = (p : Int) + (k : Int) + (o : Int) + (nf : Int) * (j : Int) := IntWalk.i64_in _ (by omega)
          have hleftw : IntKind.i64.wrap ((left : Int) - 1) = (left : Int) - 1 := IntWalk.i64_in _ (by omega)
          have Hlater := hid fun W (B) (h : CntS wr W base g L c B) => CntS.trans hFj h
          clear hxj hcx hnk hbl hsj hly hkid hFj hcell i1 i2 f0 f1
          go_wp2_with fail
          refine wp_region_held_drew (S := (fun W => W.cell? ⟨wa.heap.size, 1, none⟩ = some (.int .i64 (tn : Int)) ∧ W.cell? ⟨bs, offs + tn, none⟩ = some (.slice al2 nf cap2))) (by kernel_rfl) ?_ (fun hHeld => ?_)
          · exact hcells.out _ (fun _ _ _ => rfl)
          refine wpAnyH_take (i := 0) (oi := { dst := some 135, op := Op.move (Operand.tmp 0), type := 27, pos := "law.go:148", after := #[], guard := none }) (v := ?vc0) rfl (by kernel_rfl) (by kernel_rfl) (by kernel_rfl) (fun _ _ _ h => h) (Or.inl ⟨by rfl, ?hyc0⟩) (by assumption) ?restc0
          case hyc0 => first | (intro w hSw; (try dsimp only at hSw); go_simp; done) | (intro w hSw; (try dsimp only at hSw); go_simp; with_reducible rfl)
          try simp only [Act.put, List.setIfInBounds_toArray, List.set_cons_zero, List.set_cons_succ]
          refine wpAnyH_take (i := 1) (oi := { dst := some 136, op := Op.fieldAddr 61 (Operand.tmp 14) 1, type := 0, pos := "law.go:148", after := #[], guard := none }) (v := ?vc1) rfl (by kernel_rfl) (by kernel_rfl) (by kernel_rfl) (fun _ _ _ h => h) (Or.inl ⟨by rfl, ?hyc1⟩) (by assumption) ?restc1
          case hyc1 => first | (intro w hSw; (try dsimp only at hSw); go_simp; done) | (intro w hSw; (try dsimp only at hSw); go_simp; with_reducible rfl)
          try simp only [Act.put, List.setIfInBounds_toArray, List.set_cons_zero, List.set_cons_succ]
          refine wpAnyH_take (i := 2) (oi := { dst := some 137, op := Op.load 3 (Operand.tmp 136), type := 3, pos := "law.go:148", after := #[{ on := 1, ground := Ground.data }], guard := none }) (v := ?vc2) rfl (by kernel_rfl) (by kernel_rfl) (by kernel_rfl) (fun _ _ _ h => h) (Or.inl ⟨by rfl, ?hyc2⟩) (by assumption) ?restc2
          case hyc2 => first | (intro w hSw; (try dsimp only at hSw); go_simp; done) | (intro w hSw; (try dsimp only at hSw); go_simp; with_reducible rfl)
          try simp only [Act.put, List.setIfInBounds_toArray, List.set_cons_zero, List.set_cons_succ]
          refine wpAnyH_take (i := 3) (oi := { dst := some 138, op := Op.move (Operand.tmp 2), type := 28, pos := "law.go:148", after := #[], guard := none }) (v := ?vc3) rfl (by kernel_rfl) (by kernel_rfl) (by kernel_rfl) (fun _ _ _ h => h) (Or.inl ⟨by rfl, ?hyc3⟩) (by assumption) ?restc3
          case hyc3 => first | (intro w hSw; (try dsimp only at hSw); go_simp; done) | (intro w hSw; (try dsimp only at hSw); go_simp; with_reducible rfl)
          try simp only [Act.put, List.setIfInBounds_toArray, List.set_cons_zero, List.set_cons_succ]
          refine wpAnyH_take (i := 4) (oi := { dst := some 139, op := Op.move (Operand.tmp 17), type := 3, pos := "law.go:148", after := #[], guard := none }) (v := ?vc4) rfl (by kernel_rfl) (by kernel_rfl) (by kernel_rfl) (fun _ _ _ h => h) (Or.inl ⟨by rfl, ?hyc4⟩) (by assumption) ?restc4
          case hyc4 => first | (intro w hSw; (try dsimp only at hSw); go_simp; done) | (intro w hSw; (try dsimp only at hSw); go_simp; with_reducible rfl)
          try simp only [Act.put, List.setIfInBounds_toArray, List.set_cons_zero, List.set_cons_succ]
          refine wpAnyH_take (i := 5) (oi := { dst := some 140, op := Op.move (Operand.tmp 19), type := 3, pos := "law.go:148", after := #[], guard := none }) (v := ?vc5) rfl (by kernel_rfl) (by kernel_rfl) (by kernel_rfl) (fun _ _ _ h => h) (Or.inl ⟨by rfl, ?hyc5⟩) (by assumption) ?restc5
          case hyc5 => first | (intro w hSw; (try dsimp only at hSw); go_simp; done) | (intro w hSw; (try dsimp only at hSw); go_simp; with_reducible rfl)
          try simp only [Act.put, List.setIfInBounds_toArray, List.set_cons_zero, List.set_cons_succ]
          refine wpAnyH_take (i := 6) (oi := { dst := some 141, op := Op.move (Operand.tmp 0), type := 27, pos := "law.go:148", after := #[], guard := none }) (v := ?vc6) rfl (by kernel_rfl) (by kernel_rfl) (by kernel_rfl) (fun _ _ _ h => h) (Or.inl ⟨by rfl, ?hyc6⟩) (by assumption) ?restc6
          case hyc6 => first | (intro w hSw; (try dsimp only at hSw); go_simp; done) | (intro w hSw; (try dsimp only at hSw); go_simp; with_reducible rfl)
          try simp only [Act.put, List.setIfInBounds_toArray, List.set_cons_zero, List.set_cons_succ]
          refine wpAnyH_take (i := 7) (oi := { dst := some 142, op := Op.fieldAddr 61 (Operand.tmp 14) 1, type := 0, pos := "law.go:148", after := #[], guard := none }) (v := ?vc7) rfl (by kernel_rfl) (by kernel_rfl) (by kernel_rfl) (fun _ _ _ h => h) (Or.inl ⟨by rfl, ?hyc7⟩) (by assumption) ?restc7
          case hyc7 => first | (intro w hSw; (try dsimp only at hSw); go_simp; done) | (intro w hSw; (try dsimp only at hSw); go_simp; with_reducible rfl)
          try simp only [Act.put, List.setIfInBounds_toArray, List.set_cons_zero, List.set_cons_succ]
          refine wpAnyH_take (i := 8) (oi := { dst := some 143, op := Op.load 3 (Operand.tmp 142), type := 3, pos := "law.go:148", after := #[{ on := 7, ground := Ground.data }], guard := none }) (v := ?vc8) rfl (by kernel_rfl) (by kernel_rfl) (by kernel_rfl) (fun _ _ _ h => h) (Or.inl ⟨by rfl, ?hyc8⟩) (by assumption) ?restc8
          case hyc8 => first | (intro w hSw; (try dsimp only at hSw); go_simp; done) | (intro w hSw; (try dsimp only at hSw); go_simp; with_reducible rfl)
          try simp only [Act.put, List.setIfInBounds_toArray, List.set_cons_zero, List.set_cons_succ]
          refine wpAnyH_take (i := 9) (oi := { dst := some 144, op := Op.indexAddr 27 (Operand.tmp 141) (Operand.tmp 143), type := 0, pos := "law.go:148", after := #[{ on := 6, ground := Ground.data }, { on := 8, ground := Ground.data }], guard := none }) (v := ?vc9) rfl (by kernel_rfl) (by kernel_rfl) (by kernel_rfl) (fun _ _ _ h => h) (Or.inl ⟨by rfl, ?hyc9⟩) (by assumption) ?restc9
          case hyc9 => first | (intro w hSw; (try dsimp only at hSw); go_simp; done) | (intro w hSw; (try dsimp only at hSw); go_simp; with_reducible rfl)
          try simp only [Act.put, List.setIfInBounds_toArray, List.set_cons_zero, List.set_cons_succ]
          refine wpAnyH_take (i := 10) (oi := { dst := some 145, op := Op.load 62 (Operand.tmp 144), type := 62, pos := "law.go:148", after := #[{ on := 9, ground := Ground.data }], guard := none }) (v := ?vc10) rfl (by kernel_rfl) (by kernel_rfl) (by kernel_rfl) (fun _ _ _ h => h) (Or.inl ⟨by rfl, ?hyc10⟩) (by assumption) ?restc10
          case hyc10 => first | (intro w hSw; (try dsimp only at hSw); go_simp; done) | (intro w hSw; (try dsimp only at hSw); go_simp; with_reducible rfl)
          try simp only [Act.put, List.setIfInBounds_toArray, List.set_cons_zero, List.set_cons_succ]
          refine wpAnyH_take (i := 11) (oi := { dst := some 146, op := Op.call { callee := Callee.builtin Builtin.len, args := #[Operand.tmp 145], argTypes := #[62] }, type := 3, pos := "law.go:148", after := #[{ on := 10, ground := Ground.data }], guard := none }) (v := ?vc11) rfl (by kernel_rfl) (by kernel_rfl) (by kernel_rfl) (fun _ _ _ h => h) (Or.inl ⟨by rfl, ?hyc11⟩) (by assumption) ?restc11
          case hyc11 => first | (intro w hSw; (try dsimp only at hSw); go_simp; done) | (intro w hSw; (try dsimp only at hSw); go_simp; with_reducible rfl)
          try simp only [Act.put, List.setIfInBounds_toArray, List.set_cons_zero, List.set_cons_succ]
          refine wpAnyH_take (i := 12) (oi := { dst := some 147, op := Op.binOp BinOp.mul 3 (Operand.tmp 140) (Operand.tmp 146) 3, type := 3, pos := "law.go:148", after := #[{ on := 5, ground := Ground.data }, { on := 11, ground := Ground.data }], guard := none }) (v := ?vc12) rfl (by kernel_rfl) (by kernel_rfl) (by kernel_rfl) (fun _ _ _ h => h) (Or.inl ⟨by rfl, ?hyc12⟩) (by assumption) ?restc12
          case hyc12 => first | (intro w hSw; (try dsimp only at hSw); go_simp; done) | (intro w hSw; (try dsimp only at hSw); go_simp; with_reducible rfl)
          try simp only [Act.put, List.setIfInBounds_toArray, List.set_cons_zero, List.set_cons_succ]
          refine wpAnyH_take (i := 13) (oi := { dst := some 148, op := Op.binOp BinOp.add 3 (Operand.tmp 139) (Operand.tmp 147) 3, type := 3, pos := "law.go:148", after := #[{ on := 4, ground := Ground.data }, { on := 12, ground := Ground.data }], guard := none }) (v := ?vc13) rfl (by kernel_rfl) (by kernel_rfl) (by kernel_rfl) (fun _ _ _ h => h) (Or.inl ⟨by rfl, ?hyc13⟩) (by assumption) ?restc13
          case hyc13 => first | (intro w hSw; (try dsimp only at hSw); go_simp; done) | (intro w hSw; (try dsimp only at hSw); go_simp; with_reducible rfl)
          try simp only [Act.put, List.setIfInBounds_toArray, List.set_cons_zero, List.set_cons_succ]
          refine wpAnyH_take (i := 14) (oi := { dst := some 149, op := Op.move (Operand.tmp 4), type := 22, pos := "law.go:148", after := #[], guard := none }) (v := ?vc14) rfl (by kernel_rfl) (by kernel_rfl) (by kernel_rfl) (fun _ _ _ h => h) (Or.inl ⟨by rfl, ?hyc14⟩) (by assumption) ?restc14
          case hyc14 => first | (intro w hSw; (try dsimp only at hSw); go_simp; done) | (intro w hSw; (try dsimp only at hSw); go_simp; with_reducible rfl)
          try simp only [Act.put, List.setIfInBounds_toArray, List.set_cons_zero, List.set_cons_succ]
          refine wpAnyH_take (i := 15) (oi := { dst := some 150, op := Op.move (Operand.tmp 5), type := 3, pos := "law.go:148", after := #[], guard := none }) (v := ?vc15) rfl (by kernel_rfl) (by kernel_rfl) (by kernel_rfl) (fun _ _ _ h => h) (Or.inl ⟨by rfl, ?hyc15⟩) (by assumption) ?restc15
          case hyc15 => first | (intro w hSw; (try dsimp only at hSw); go_simp; done) | (intro w hSw; (try dsimp only at hSw); go_simp; with_reducible rfl)
          try simp only [Act.put, List.setIfInBounds_toArray, List.set_cons_zero, List.set_cons_succ]
          refine wpAnyH_take (i := 16) (oi := { dst := some 151, op := Op.binOp BinOp.sub 3 (Operand.tmp 150) (Operand.const (Value.int IntKind.i64 1)) 3, type := 3, pos := "law.go:148", after := #[{ on := 15, ground := Ground.data }], guard := none }) (v := ?vc16) rfl (by kernel_rfl) (by kernel_rfl) (by kernel_rfl) (fun _ _ _ h => h) (Or.inl ⟨by rfl, ?hyc16⟩) (by assumption) ?restc16
          case hyc16 => first | (intro w hSw; (try dsimp only at hSw); go_simp; done) | (intro w hSw; (try dsimp only at hSw); go_simp; with_reducible rfl)
          try simp only [Act.put, List.setIfInBounds_toArray, List.set_cons_zero, List.set_cons_succ]
          refine wpAnyH_ready (rs := [17]) (by kernel_rfl) (by simp) ?_
          refine AllReadyH.cons (o := { dst := some 152, op := Op.call { callee := Callee.value (Operand.func 31), args := #[Operand.tmp 135, Operand.tmp 137, Operand.tmp 138, Operand.tmp 148, Operand.tmp 149, Operand.tmp 151], argTypes := #[27, 3, 28, 3, 22, 3] }, type := 4, pos := "law.go:148", after := #[{ on := 0, ground := Ground.data }, { on := 2, ground := Ground.data }, { on := 3, ground := Ground.data }, { on := 13, ground := Ground.data }, { on := 14, ground := Ground.data }, { on := 16, ground := Ground.data }], guard := none }) rfl (fun K hK => ?_) AllReadyH.nil
          have hbw9 := below_drewN wr.heap.size wr 1
          go_simp
          ((refine (hcall.out _ hbw9).mono ?_); rintro r9 w9 ⟨rfl, hF9⟩)
          have hF9w := hid (Hlater.out _ _ (hF9.before hbw9 hbwj))
          refine hK.out _ _ ?_ (fun hHeld => ?_)
          · exact hcells.out _ (fun b hb hne => (hF9.before hbw9 hbwj).keep b hb hne)
          clear hK K
          try simp only [Act.put, List.setIfInBounds_toArray, List.set_cons_zero, List.set_cons_succ]
          refine wpAnyH_take (i := 18) (oi := { dst := some 20, op := Op.assign (Operand.tmp 152), type := 4, pos := "law.go:148", after := #[{ on := 17, ground := Ground.data }, { on := 17, ground := Ground.chain }, { on := 0, ground := Ground.phase }, { on := 1, ground := Ground.phase }, { on := 2, ground := Ground.phase }, { on := 3, ground := Ground.phase }, { on := 4, ground := Ground.phase }, { on := 5, ground := Ground.phase }, { on := 6, ground := Ground.phase }, { on := 7, ground := Ground.phase }, { on := 8, ground := Ground.phase }, { on := 9, ground := Ground.phase }, { on := 10, ground := Ground.phase }, { on := 11, ground := Ground.phase }, { on := 12, ground := Ground.phase }, { on := 13, ground := Ground.phase }, { on := 14, ground := Ground.phase }, { on := 15, ground := Ground.phase }, { on := 16, ground := Ground.phase }, { on := 17, ground := Ground.phase }], guard := none }) (v := ?vc18) rfl (by kernel_rfl) (by kernel_rfl) (by kernel_rfl) (fun _ _ _ h => h) (Or.inl ⟨by rfl, ?hyc18⟩) (by assumption) ?restc18
          case hyc18 => first | (intro w hSw; (try dsimp only at hSw); go_simp; done) | (intro w hSw; (try dsimp only at hSw); go_simp; with_reducible rfl)
          try simp only [Act.put, List.setIfInBounds_toArray, List.set_cons_zero, List.set_cons_succ]
          refine wpAnyH_done (by kernel_rfl) ?_ _
          clear hHeld hbw9 hcall hcells hmulj hsumj hleftw hF9
          go_wp2_with fail
          go_roundw
          case rel => exact ⟨j + 1, by omega, by go_num, hF9w.out⟩
          case measure => simp [intOf]; omega
        · obtain rfl : j = n := by omega
          clear hltj
          have hfin := hid (show CntS w wr base g L c (addV lo (sumL (fszT d) ((Node.kids v).take (k + 1))) (addV p (k + 1) A)) by
            rw [← Hfield.out, Hz.out, ← addV_app]
            rw [sumL_take_all _ _ _ (by rw [Hn.out]; exact Nat.le_refl _)] at hFj
            exact HW.out.trans hFj)
          clear hFj
          go_wp2_with fail
          go_roundw
          case rel => exact ⟨k + 1, by omega, by go_num, hfin.out⟩
          case measure => simp [intOf]; omega
    · obtain rfl : k = ml := by omega
      clear hlt
      have hfin := hid (show CntS w wr base g L c (addV lo (sumL (fszT d) (Node.kids v)) (addV p k A)) by
        rw [sumL_take_all _ _ _ (by rw [HN.out]; exact Nat.le_refl _)] at hFr
        exact hFr)
      clear hFr
      go_wp2_with fail
      go_returns
      exact ⟨rfl, hfin.out⟩

theorem cnt_any (s : Schema) (hr : rightB s = true) (sv wv : Value) (ws : List (BitVec 64)) (w0 : World) : ∀ d left, CntC s sv wv ws w0 d left := by
  intro d
  induction d with
  | zero => exact fun _ _ v => nomatch v
  | succ d ih => exact fun left => cnt_step s hr sv wv ws w0 d left (ih (left - 1))
end SCount

end Go.Proofs.YtogaclolodlnbaaDoor


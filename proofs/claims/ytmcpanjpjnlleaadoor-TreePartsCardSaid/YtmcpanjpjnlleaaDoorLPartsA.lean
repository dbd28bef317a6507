/- What is told of a field and of its parts: fields of kinds 1, 2, 3. -/
import Derived.Test.YtmcpanjpjnlleaaDoorGetFit
import Derived.Test.YtmcpanjpjnlleaaDoorMadeT2
import Derived.Test.YtmcpanjpjnlleaaDoorAw6
import Derived.Deep.RegionHeld3
import Derived.Outline
set_option linter.unusedVariables false
namespace Go.Proofs.YtmcpanjpjnlleaaDoor
open Go.RowKit

set_option maxRecDepth 100000 in
set_option maxHeartbeats 40000000 in
theorem parts_k1 (s : Schema) (hr : rightB s = true) (sv : Value) (d : Nat) (hd : d + 1 ≤ 5) (t : Nat) (ht : t < s.length) (v : St (d + 1)) (cs : List Value) (i : Nat) (k : Node (St d)) (hk : (Node.kids v)[i]? = some k)
    (w : World) (hl : LaidE w) (hs : Sch w sv s) (h : RdS (d + 1) w cs v) (hfit : FitT s (d + 1) t v) (hkd : (fieldP s t i).1 = 1) :
    Calls Tryd.prog 13 #[sv, .int .i64 t, .agg cs.toArray, .int .i64 i] w fun r w' => r = .returned (.bool true) ∧ Below w.heap.size w w' := by
  have hc : checkC s (d + 1) t v = 0 := by rw [checkC, if_pos ⟨hr, by omega, by omega⟩]; exact fit_code s (d + 1) 5 t v hfit hd
  obtain ⟨hf1, hf2, hf3, hf4, hf5⟩ := hfit
  obtain ⟨hkh, hksz, hkf⟩ := hf5 i k hk
  rw [hkd] at hkh
  have Hget := hid fun (rest : List Int) => getC_at hc hk rest
  rw [hkd] at Hget
  obtain ⟨l, hlt⟩ := get_lt (l := s) (i := t) ht
  have htl := typeL_at hlt
  obtain ⟨N, hN⟩ : ∃ N, N = (Node.kids v).length := ⟨_, rfl⟩
  have hNl : N = l.length := by rw [hN, ← htl]; exact hf4
  have hiN : i < N := by rw [hN]; exact (List.getElem?_eq_some_iff.1 hk).1
  obtain ⟨⟨kd, ty⟩, hp⟩ := get_lt (l := l) (i := i) (by omega)
  have hfp : fieldP s t i = (kd, ty) := fieldP_at (by rw [htl]; exact hp)
  obtain ⟨_, _, hty0, htyn, _⟩ := right_at hr hlt hp
  simp only at hty0 htyn
  rw [hfp] at hkd
  simp only at hkd
  rw [show (fieldP s t i).2 = ty by rw [hfp]] at Hget hkf
  subst hkd
  obtain ⟨tn, rfl⟩ : ∃ tn : Nat, ty = (tn : Int) := ⟨ty.toNat, by omega⟩
  obtain ⟨sa, scap, hsv, _, _, hsm⟩ := hs.shape
  unfold maxLen at hsm
  obtain ⟨n, hn⟩ : ∃ n, n = s.length := ⟨_, rfl⟩
  rw [← hn] at hsm hsv ht htyn
  subst hsv
  obtain ⟨a2, p2, a, cap, hcs, hbs, hnr, hkr, hnm, hkm⟩ := RdN.open h
  subst hcs
  rw [← hN] at hkr hkm h ⊢
  obtain ⟨w1, hw1, hb1, hz1, hV⟩ := TB.make w (U (Node.num v)) (.string (Node.bytes v)) (.slice a2 (Node.nums v).length p2) (.slice a N cap) 34
  have hl1 := LaidE.below hl hb1 (LaidE.pos hl)
  have Hs := hid fun W (hW : Below w1.heap.size w1 W) => (hs.below hb1 (Nat.le_refl _)).below hW (Nat.le_refl _)
  have Hrd := hid fun W (hW : Below w1.heap.size w1 W) => (h.below hb1 (Nat.le_refl _)).below hW (Nat.le_refl _)
  obtain ⟨bf, of, a4, p4, a5, p5, ha, hbb, c0, c1, c2, c3, hfb, hkn, hkk, hknd, hfnn, hfm⟩ := Kids.at_ (hkr.below (kept_N (kept_S d)) hb1 (Nat.le_refl _)) hk
  subst ha
  obtain ⟨bs, offs, al, capl, hsa, hbs3, hcl, hfl, hlm, _, _⟩ := (hs.below hb1 (Nat.le_refl _)).at_ hlt
  subst hsa
  rw [← hNl] at hcl hlm hfl
  obtain ⟨bl, offl, hal, hbbl, r0, r1⟩ := hfl.at_ hp
  subst hal
  simp only at r0 r1
  obtain ⟨M, hM⟩ : ∃ M, M = k.kids.length := ⟨_, rfl⟩
  obtain ⟨R, hR⟩ : ∃ R, R = k.nums.length := ⟨_, rfl⟩
  obtain ⟨Q, hQ⟩ : ∃ Q, Q = k.bytes.size := ⟨_, rfl⟩
  rw [← hM] at hkk hfm c3
  rw [← hR] at hfnn c2 hkn
  rw [← hQ] at hfb
  obtain ⟨w2, hw2, hb2, hz2, hK⟩ := TB.make w1 (U k.num) (.string k.bytes) (.slice a4 R p4) (.slice a5 M p5) 34
  have hb12 := via hb1 hb2
  have Hb12 := hid hb2
  have hsz12 : w1.heap.size ≤ w2.heap.size := hb2.size
  have hl2 := LaidE.below hl1 hb2 (LaidE.pos hl1)
  have ⟨ltV, v0, v1, v2, v3, _⟩ := hV.below hb2
  have ⟨ltK, k0, k1, k2, k3, _⟩ := hK
  have Hcell := hid fun W (hW : Below w2.heap.size w2 W) => show (W.cell? ⟨w.heap.size, 0, none⟩ = some (U (Node.num v)) ∧ W.cell? ⟨w.heap.size, 1, none⟩ = some (.string (Node.bytes v)) ∧ W.cell? ⟨w.heap.size, 2, none⟩ = some (.slice a2 (Node.nums v).length p2) ∧ W.cell? ⟨w.heap.size, 3, none⟩ = some (.slice (some ⟨bf, of, none⟩) N cap)) ∧
      (W.cell? ⟨w1.heap.size, 0, none⟩ = some (U k.num) ∧ W.cell? ⟨w1.heap.size, 1, none⟩ = some (.string k.bytes) ∧ W.cell? ⟨w1.heap.size, 2, none⟩ = some (.slice a4 R p4) ∧ W.cell? ⟨w1.heap.size, 3, none⟩ = some (.slice a5 M p5)) ∧
      (W.cell? ⟨bs, offs + t, none⟩ = some (.slice (some ⟨bl, offl, none⟩) N capl) ∧ W.cell? ⟨bl, offl + i * 2, none⟩ = some (.int .i64 1) ∧ W.cell? ⟨bl, offl + i * 2 + 1, none⟩ = some (.int .i64 (tn : Int))) from
    ⟨⟨(hW.cell ltV).trans v0, (hW.cell ltV).trans v1, (hW.cell ltV).trans v2, (hW.cell ltV).trans v3⟩, ⟨(hW.cell ltK).trans k0, (hW.cell ltK).trans k1, (hW.cell ltK).trans k2, (hW.cell ltK).trans k3⟩,
      ((hb2.trans (hW.mono hb2.size)).cell hbs3).trans hcl, ((hb2.trans (hW.mono hb2.size)).cell hbbl).trans r0, ((hb2.trans (hW.mono hb2.size)).cell hbbl).trans r1⟩
  have Hrd2 := hid fun W (hW : Below w2.heap.size w2 W) => Hrd.out W (hb2.trans (hW.mono hb2.size))
  have Hs2 := hid fun W (hW : Below w2.heap.size w2 W) => Hs.out W (hb2.trans (hW.mono hb2.size))
  have Htop := hid fun (x : Int) W (hW : Below w2.heap.size w2 W) => top_err x W (LaidE.below hl2 hW (LaidE.pos hl2))
  have Hcall := hid fun (path : List Int) (pv : Value) W (hW : Below w2.heap.size w2 W) (hp : Ints W pv path) => tget_any s (.slice (some ⟨bs, offs, none⟩) n scap) (d + 1) t v _ path pv W (Hs2.out W hW) (Hrd2.out W hW) hp
  have Hk := hid hk
  have HM := hid hM
  have HR := hid hR
  have HQ := hid hQ
  have HN := hid hN
  have Hn := hid hn
  have Hkh := hid hkh
  have Hksz := hid hksz
  have Hkf := hid hkf
  have Hkk := hid hkk
  have Hkn := hid hkn
  have Hc := hid hc
  have Hlt := hid hlt
  have u3 := hV.c3
  clear Hs Hrd hs h hk hM hR hQ hN hn hkh hksz hkf hkk hkn hknd hc hlt htl hNl hfp hf1 hf2 hf3 hf4 hf5 hcl r0 r1 hkr hnr hb2 hV hK hb1 hl1 hp hbs hfl hz1 hz2
  go_enter Tryd.func13, Tryd.ntmps13
  go_wp2_with fail
  clear hw1 hw2 u3 c0 c1 c2 c3 v0 v1 v2 v3 k0 k1 k2 k3
  have hp3 := row_new w2 #[.int .i64 i] 3 1 1 rfl (by simp [maxLen])
  have hb3 := (Below.refl w2.heap.size w2).trans ((below_alloc w2 (.cells #[.int .i64 i] 3)).mono (Below.refl w2.heap.size w2).size)
  have hv3 := Hcall.out [i] _ _ hb3 hp3
  rw [Hget.out, getF1_nil] at hv3
  ((refine hv3.mono ?_); rintro r3 w3 ⟨rfl, hc3⟩)
  have hB3 := hb3.trans (hc3.mono hb3.size)
  clear hp3 hb3 hv3 hc3
  obtain ⟨⟨v0, v1, v2, v3⟩, ⟨k0, k1, k2, k3⟩, q0, q1, q2⟩ := Hcell.out _ hB3
  go_wp2_with fail
  clear v0 v1 v2 v3 k0 k1 k2 k3 q0 q1 q2
  ((refine (Htop.out 0 _ hB3).mono ?_); rintro r4 w4 ⟨rfl, hc4⟩)
  have hB4 := hB3.trans (hc4.mono hB3.size)
  clear hc4
  obtain ⟨⟨v0, v1, v2, v3⟩, ⟨k0, k1, k2, k3⟩, q0, q1, q2⟩ := Hcell.out _ hB4
  go_wp2_with fail
  clear v0 v1 v2 v3 k0 k1 k2 k3 q0 q1 q2
  have hp5 := row_new w4 #[.int .i64 i, .int .i64 0] 3 1 2 rfl (by simp [maxLen])
  have hb5 := hB4.trans ((below_alloc w4 (.cells #[.int .i64 i, .int .i64 0] 3)).mono hB4.size)
  have hv5 := Hcall.out [i, 0] _ _ hb5 hp5
  rw [Hget.out, getF1_more] at hv5
  ((refine hv5.mono ?_); rintro r5 w5 ⟨rfl, hc5⟩)
  have hB5 := hb5.trans (hc5.mono hb5.size)
  clear hp5 hb5 hv5 hc5
  obtain ⟨⟨v0, v1, v2, v3⟩, ⟨k0, k1, k2, k3⟩, q0, q1, q2⟩ := Hcell.out _ hB5
  go_wp2_with fail
  clear v0 v1 v2 v3 k0 k1 k2 k3 q0 q1 q2
  ((refine (Htop.out 24 _ hB5).mono ?_); rintro r6 w6 ⟨rfl, hc6⟩)
  have hB6 := hB5.trans (hc6.mono hB5.size)
  clear hc6
  obtain ⟨⟨v0, v1, v2, v3⟩, ⟨k0, k1, k2, k3⟩, q0, q1, q2⟩ := Hcell.out _ hB6
  go_wp2_with fail
  go_returns
  exact ⟨rfl, via hb12 hB6⟩

set_option maxRecDepth 100000 in
set_option maxHeartbeats 40000000 in
theorem parts_k2 (s : Schema) (hr : rightB s = true) (sv : Value) (d : Nat) (hd : d + 1 ≤ 5) (t : Nat) (ht : t < s.length) (v : St (d + 1)) (cs : List Value) (i : Nat) (k : Node (St d)) (hk : (Node.kids v)[i]? = some k)
    (w : World) (hl : LaidE w) (hs : Sch w sv s) (h : RdS (d + 1) w cs v) (hfit : FitT s (d + 1) t v) (hkd : (fieldP s t i).1 = 2) :
    Calls Tryd.prog 13 #[sv, .int .i64 t, .agg cs.toArray, .int .i64 i] w fun r w' => r = .returned (.bool true) ∧ Below w.heap.size w w' := by
  have hc : checkC s (d + 1) t v = 0 := by rw [checkC, if_pos ⟨hr, by omega, by omega⟩]; exact fit_code s (d + 1) 5 t v hfit hd
  obtain ⟨hf1, hf2, hf3, hf4, hf5⟩ := hfit
  obtain ⟨hkh, hksz, hkf⟩ := hf5 i k hk
  rw [hkd] at hkh
  have Hget := hid fun (rest : List Int) => getC_at hc hk rest
  rw [hkd] at Hget
  obtain ⟨l, hlt⟩ := get_lt (l := s) (i := t) ht
  have htl := typeL_at hlt
  obtain ⟨N, hN⟩ : ∃ N, N = (Node.kids v).length := ⟨_, rfl⟩
  have hNl : N = l.length := by rw [hN, ← htl]; exact hf4
  have hiN : i < N := by rw [hN]; exact (List.getElem?_eq_some_iff.1 hk).1
  obtain ⟨⟨kd, ty⟩, hp⟩ := get_lt (l := l) (i := i) (by omega)
  have hfp : fieldP s t i = (kd, ty) := fieldP_at (by rw [htl]; exact hp)
  obtain ⟨_, _, hty0, htyn, _⟩ := right_at hr hlt hp
  simp only at hty0 htyn
  rw [hfp] at hkd
  simp only at hkd
  rw [show (fieldP s t i).2 = ty by rw [hfp]] at Hget hkf
  subst hkd
  obtain ⟨tn, rfl⟩ : ∃ tn : Nat, ty = (tn : Int) := ⟨ty.toNat, by omega⟩
  obtain ⟨sa, scap, hsv, _, _, hsm⟩ := hs.shape
  unfold maxLen at hsm
  obtain ⟨n, hn⟩ : ∃ n, n = s.length := ⟨_, rfl⟩
  rw [← hn] at hsm hsv ht htyn
  subst hsv
  obtain ⟨a2, p2, a, cap, hcs, hbs, hnr, hkr, hnm, hkm⟩ := RdN.open h
  subst hcs
  rw [← hN] at hkr hkm h ⊢
  obtain ⟨w1, hw1, hb1, hz1, hV⟩ := TB.make w (U (Node.num v)) (.string (Node.bytes v)) (.slice a2 (Node.nums v).length p2) (.slice a N cap) 34
  have hl1 := LaidE.below hl hb1 (LaidE.pos hl)
  have Hs := hid fun W (hW : Below w1.heap.size w1 W) => (hs.below hb1 (Nat.le_refl _)).below hW (Nat.le_refl _)
  have Hrd := hid fun W (hW : Below w1.heap.size w1 W) => (h.below hb1 (Nat.le_refl _)).below hW (Nat.le_refl _)
  obtain ⟨bf, of, a4, p4, a5, p5, ha, hbb, c0, c1, c2, c3, hfb, hkn, hkk, hknd, hfnn, hfm⟩ := Kids.at_ (hkr.below (kept_N (kept_S d)) hb1 (Nat.le_refl _)) hk
  subst ha
  obtain ⟨bs, offs, al, capl, hsa, hbs3, hcl, hfl, hlm, _, _⟩ := (hs.below hb1 (Nat.le_refl _)).at_ hlt
  subst hsa
  rw [← hNl] at hcl hlm hfl
  obtain ⟨bl, offl, hal, hbbl, r0, r1⟩ := hfl.at_ hp
  subst hal
  simp only at r0 r1
  obtain ⟨M, hM⟩ : ∃ M, M = k.kids.length := ⟨_, rfl⟩
  obtain ⟨R, hR⟩ : ∃ R, R = k.nums.length := ⟨_, rfl⟩
  obtain ⟨Q, hQ⟩ : ∃ Q, Q = k.bytes.size := ⟨_, rfl⟩
  rw [← hM] at hkk hfm c3
  rw [← hR] at hfnn c2 hkn
  rw [← hQ] at hfb
  obtain ⟨w2, hw2, hb2, hz2, hK⟩ := TB.make w1 (U k.num) (.string k.bytes) (.slice a4 R p4) (.slice a5 M p5) 34
  have hb12 := via hb1 hb2
  have Hb12 := hid hb2
  have hsz12 : w1.heap.size ≤ w2.heap.size := hb2.size
  have hl2 := LaidE.below hl1 hb2 (LaidE.pos hl1)
  have ⟨ltV, v0, v1, v2, v3, _⟩ := hV.below hb2
  have ⟨ltK, k0, k1, k2, k3, _⟩ := hK
  have Hcell := hid fun W (hW : Below w2.heap.size w2 W) => show (W.cell? ⟨w.heap.size, 0, none⟩ = some (U (Node.num v)) ∧ W.cell? ⟨w.heap.size, 1, none⟩ = some (.string (Node.bytes v)) ∧ W.cell? ⟨w.heap.size, 2, none⟩ = some (.slice a2 (Node.nums v).length p2) ∧ W.cell? ⟨w.heap.size, 3, none⟩ = some (.slice (some ⟨bf, of, none⟩) N cap)) ∧
      (W.cell? ⟨w1.heap.size, 0, none⟩ = some (U k.num) ∧ W.cell? ⟨w1.heap.size, 1, none⟩ = some (.string k.bytes) ∧ W.cell? ⟨w1.heap.size, 2, none⟩ = some (.slice a4 R p4) ∧ W.cell? ⟨w1.heap.size, 3, none⟩ = some (.slice a5 M p5)) ∧
      (W.cell? ⟨bs, offs + t, none⟩ = some (.slice (some ⟨bl, offl, none⟩) N capl) ∧ W.cell? ⟨bl, offl + i * 2, none⟩ = some (.int .i64 2) ∧ W.cell? ⟨bl, offl + i * 2 + 1, none⟩ = some (.int .i64 (tn : Int))) from
    ⟨⟨(hW.cell ltV).trans v0, (hW.cell ltV).trans v1, (hW.cell ltV).trans v2, (hW.cell ltV).trans v3⟩, ⟨(hW.cell ltK).trans k0, (hW.cell ltK).trans k1, (hW.cell ltK).trans k2, (hW.cell ltK).trans k3⟩,
      ((hb2.trans (hW.mono hb2.size)).cell hbs3).trans hcl, ((hb2.trans (hW.mono hb2.size)).cell hbbl).trans r0, ((hb2.trans (hW.mono hb2.size)).cell hbbl).trans r1⟩
  have Hrd2 := hid fun W (hW : Below w2.heap.size w2 W) => Hrd.out W (hb2.trans (hW.mono hb2.size))
  have Hs2 := hid fun W (hW : Below w2.heap.size w2 W) => Hs.out W (hb2.trans (hW.mono hb2.size))
  have Htop := hid fun (x : Int) W (hW : Below w2.heap.size w2 W) => top_err x W (LaidE.below hl2 hW (LaidE.pos hl2))
  have Hcall := hid fun (path : List Int) (pv : Value) W (hW : Below w2.heap.size w2 W) (hp : Ints W pv path) => tget_any s (.slice (some ⟨bs, offs, none⟩) n scap) (d + 1) t v _ path pv W (Hs2.out W hW) (Hrd2.out W hW) hp
  have Hk := hid hk
  have HM := hid hM
  have HR := hid hR
  have HQ := hid hQ
  have HN := hid hN
  have Hn := hid hn
  have Hkh := hid hkh
  have Hksz := hid hksz
  have Hkf := hid hkf
  have Hkk := hid hkk
  have Hkn := hid hkn
  have Hc := hid hc
  have Hlt := hid hlt
  have u3 := hV.c3
  clear Hs Hrd hs h hk hM hR hQ hN hn hkh hksz hkf hkk hkn hknd hc hlt htl hNl hfp hf1 hf2 hf3 hf4 hf5 hcl r0 r1 hkr hnr hb2 hV hK hb1 hl1 hp hbs hfl hz1 hz2
  obtain ⟨hk0, hR0, hM0, hQ40⟩ := has2 (Hkh.out : hasV 2 _ _ _ _ = true)
  rw [← HR.out] at hR0
  rw [← HM.out] at hM0
  clear hk0
  subst hR0 hM0
  have HQ2 := hid (show (k.bytes.size : Int) = (Q : Int) by rw [HQ.out])
  have hQ3 : (k.bytes.size : Int) = (Q : Int) := HQ2.out
  go_enter Tryd.func13, Tryd.ntmps13
  go_wp2_with fail
  clear hw1 hw2 u3 c0 c1 c2 c3 v0 v1 v2 v3 k0 k1 k2 k3
  have hp3 := row_new w2 #[.int .i64 i] 3 1 1 rfl (by simp [maxLen])
  have hb3 := (Below.refl w2.heap.size w2).trans ((below_alloc w2 (.cells #[.int .i64 i] 3)).mono (Below.refl w2.heap.size w2).size)
  have hv3 := Hcall.out [i] _ _ hb3 hp3
  rw [Hget.out, getF2, pick_nil, ← HQ.out] at hv3
  ((refine hv3.mono ?_); rintro r3 w3 ⟨rfl, hc3⟩)
  have hB3 := hb3.trans (hc3.mono hb3.size)
  clear hp3 hb3 hv3 hc3
  obtain ⟨⟨v0, v1, v2, v3⟩, ⟨k0, k1, k2, k3⟩, q0, q1, q2⟩ := Hcell.out _ hB3
  go_wp2_with fail
  clear v0 v1 v2 v3 k0 k1 k2 k3 q0 q1 q2
  ((refine (Htop.out 0 _ hB3).mono ?_); rintro r4 w4 ⟨rfl, hc4⟩)
  have hB4 := hB3.trans (hc4.mono hB3.size)
  clear hc4
  obtain ⟨⟨v0, v1, v2, v3⟩, ⟨k0, k1, k2, k3⟩, q0, q1, q2⟩ := Hcell.out _ hB4
  go_wp2_with fail
  clear v0 v1 v2 v3 k0 k1 k2 k3 q0 q1 q2
  have hp5 := row_new w4 #[.int .i64 i, .int .i64 Q] 3 1 2 rfl (by simp [maxLen])
  have hb5 := hB4.trans ((below_alloc w4 (.cells #[.int .i64 i, .int .i64 Q] 3)).mono hB4.size)
  have hv5 := Hcall.out [i, Q] _ _ hb5 hp5
  rw [Hget.out, getF2, ← HQ.out, pick_end] at hv5
  ((refine hv5.mono ?_); rintro r5 w5 ⟨rfl, hc5⟩)
  have hB5 := hb5.trans (hc5.mono hb5.size)
  clear hp5 hb5 hv5 hc5
  go_wp2_with fail
  have Hb0 := hid hB5
  clear hB5
  go_loopw [23] (fun jv wr => ∃ j : Nat, j ≤ Q ∧ jv = .int .i64 j ∧ Below w2.heap.size w2 wr) (fun jv _ => Q - (intOf jv).toNat)
  case atStart => exact ⟨0, Nat.zero_le _, rfl, Hb0.out⟩
  case round =>
    obtain ⟨j, hjM, rfl, hbl⟩ := hrel
    by_cases hj : j < Q
    · have hjs : j < k.bytes.size := by have := HQ.out; omega
      have hbj : byteV k.bytes j = BitVec.ofNat 64 k.bytes[j].toNat := by
        unfold byteV
        congr 2
        rw [List.getD_eq_getElem?_getD, List.getElem?_eq_getElem (by simpa using hjs), Option.getD_some]
        rfl
      have Hbj := hid hbj
      clear hbj
      obtain ⟨⟨v0, v1, v2, v3⟩, ⟨k0, k1, k2, k3⟩, _, _, _⟩ := Hcell.out _ hbl
      go_wp2_with fail
      clear v0 v1 v2 v3 k0 k1 k2 k3
      have hp6 := row_new wr #[.int .i64 i, .int .i64 j] 3 1 2 rfl (by simp [maxLen])
      have hb6 := hbl.trans ((below_alloc wr (.cells #[.int .i64 i, .int .i64 j] 3)).mono hbl.size)
      have hv6 := Hcall.out [i, j] _ _ hb6 hp6
      rw [Hget.out, getF2, ← HQ.out, pick_at _ _ _ hj, Hbj.out] at hv6
      ((refine hv6.mono ?_); rintro r6 w6 ⟨rfl, hc6⟩)
      have hB6 := hb6.trans (hc6.mono hb6.size)
      clear hp6 hb6 hv6 hc6
      obtain ⟨⟨v0, v1, v2, v3⟩, ⟨k0, k1, k2, k3⟩, _, _, _⟩ := Hcell.out _ hB6
      go_wp2_with fail
      clear v0 v1 v2 v3 k0 k1 k2 k3
      have hp7 := row_new w6 #[.int .i64 i, .int .i64 j, .int .i64 0] 3 1 3 rfl (by simp [maxLen])
      have hb7 := hB6.trans ((below_alloc w6 (.cells #[.int .i64 i, .int .i64 j, .int .i64 0] 3)).mono hB6.size)
      have hv7 := Hcall.out [i, j, 0] _ _ hb7 hp7
      rw [Hget.out, getF2, ← HQ.out, pick_more _ _ _ hj] at hv7
      ((refine hv7.mono ?_); rintro r7 w7 ⟨rfl, hc7⟩)
      have hB7 := hb7.trans (hc7.mono hb7.size)
      clear hp7 hb7 hv7 hc7
      obtain ⟨⟨v0, v1, v2, v3⟩, ⟨k0, k1, k2, k3⟩, _, _, _⟩ := Hcell.out _ hB7
      go_wp2_with fail
      clear v0 v1 v2 v3 k0 k1 k2 k3
      ((refine (Htop.out 0 _ hB7).mono ?_); rintro r8 w8 ⟨rfl, hc8⟩)
      have hB8 := hB7.trans (hc8.mono hB7.size)
      clear hc8
      obtain ⟨⟨_, _, _, _⟩, ⟨k0, k1, k2, k3⟩, _, _, _⟩ := Hcell.out _ hB8
      go_wp2_with fail
      clear k0 k1 k2 k3
      ((refine (Htop.out 24 _ hB8).mono ?_); rintro r9 w9 ⟨rfl, hc9⟩)
      have hB9 := hB8.trans (hc9.mono hB8.size)
      clear hc9
      obtain ⟨⟨_, _, _, _⟩, ⟨k0, k1, k2, k3⟩, _, _, _⟩ := Hcell.out _ hB9
      go_wp2_with fail
      clear k0 k1 k2 k3
      go_roundw
      case rel => exact ⟨j + 1, by omega, by go_num, hB9⟩
      case measure => simp [intOf] <;> omega
    · obtain rfl : j = Q := by omega
      go_wp2_with fail
      ((refine (Htop.out 12 _ hbl).mono ?_); rintro r10 w10 ⟨rfl, hc10⟩)
      have hB10 := hbl.trans (hc10.mono hbl.size)
      clear hc10
      go_wp2_with fail
      go_returns
      exact ⟨rfl, via hb12 hB10⟩

set_option maxRecDepth 100000 in
set_option maxHeartbeats 40000000 in
theorem parts_k3 (s : Schema) (hr : rightB s = true) (sv : Value) (d : Nat) (hd : d + 1 ≤ 5) (t : Nat) (ht : t < s.length) (v : St (d + 1)) (cs : List Value) (i : Nat) (k : Node (St d)) (hk : (Node.kids v)[i]? = some k)
    (w : World) (hl : LaidE w) (hs : Sch w sv s) (h : RdS (d + 1) w cs v) (hfit : FitT s (d + 1) t v) (hkd : (fieldP s t i).1 = 3) :
    Calls Tryd.prog 13 #[sv, .int .i64 t, .agg cs.toArray, .int .i64 i] w fun r w' => r = .returned (.bool true) ∧ Below w.heap.size w w' := by
  have hc : checkC s (d + 1) t v = 0 := by rw [checkC, if_pos ⟨hr, by omega, by omega⟩]; exact fit_code s (d + 1) 5 t v hfit hd
  obtain ⟨hf1, hf2, hf3, hf4, hf5⟩ := hfit
  obtain ⟨hkh, hksz, hkf⟩ := hf5 i k hk
  rw [hkd] at hkh
  have Hget := hid fun (rest : List Int) => getC_at hc hk rest
  rw [hkd] at Hget
  obtain ⟨l, hlt⟩ := get_lt (l := s) (i := t) ht
  have htl := typeL_at hlt
  obtain ⟨N, hN⟩ : ∃ N, N = (Node.kids v).length := ⟨_, rfl⟩
  have hNl : N = l.length := by rw [hN, ← htl]; exact hf4
  have hiN : i < N := by rw [hN]; exact (List.getElem?_eq_some_iff.1 hk).1
  obtain ⟨⟨kd, ty⟩, hp⟩ := get_lt (l := l) (i := i) (by omega)
  have hfp : fieldP s t i = (kd, ty) := fieldP_at (by rw [htl]; exact hp)
  obtain ⟨_, _, hty0, htyn, _⟩ := right_at hr hlt hp
  simp only at hty0 htyn
  rw [hfp] at hkd
  simp only at hkd
  rw [show (fieldP s t i).2 = ty by rw [hfp]] at Hget hkf
  subst hkd
  obtain ⟨tn, rfl⟩ : ∃ tn : Nat, ty = (tn : Int) := ⟨ty.toNat, by omega⟩
  obtain ⟨sa, scap, hsv, _, _, hsm⟩ := hs.shape
  unfold maxLen at hsm
  obtain ⟨n, hn⟩ : ∃ n, n = s.length := ⟨_, rfl⟩
  rw [← hn] at hsm hsv ht htyn
  subst hsv
  obtain ⟨a2, p2, a, cap, hcs, hbs, hnr, hkr, hnm, hkm⟩ := RdN.open h
  subst hcs
  rw [← hN] at hkr hkm h ⊢
  obtain ⟨w1, hw1, hb1, hz1, hV⟩ := TB.make w (U (Node.num v)) (.string (Node.bytes v)) (.slice a2 (Node.nums v).length p2) (.slice a N cap) 34
  have hl1 := LaidE.below hl hb1 (LaidE.pos hl)
  have Hs := hid fun W (hW : Below w1.heap.size w1 W) => (hs.below hb1 (Nat.le_refl _)).below hW (Nat.le_refl _)
  have Hrd := hid fun W (hW : Below w1.heap.size w1 W) => (h.below hb1 (Nat.le_refl _)).below hW (Nat.le_refl _)
  obtain ⟨bf, of, a4, p4, a5, p5, ha, hbb, c0, c1, c2, c3, hfb, hkn, hkk, hknd, hfnn, hfm⟩ := Kids.at_ (hkr.below (kept_N (kept_S d)) hb1 (Nat.le_refl _)) hk
  subst ha
  obtain ⟨bs, offs, al, capl, hsa, hbs3, hcl, hfl, hlm, _, _⟩ := (hs.below hb1 (Nat.le_refl _)).at_ hlt
  subst hsa
  rw [← hNl] at hcl hlm hfl
  obtain ⟨bl, offl, hal, hbbl, r0, r1⟩ := hfl.at_ hp
  subst hal
  simp only at r0 r1
  obtain ⟨M, hM⟩ : ∃ M, M = k.kids.length := ⟨_, rfl⟩
  obtain ⟨R, hR⟩ : ∃ R, R = k.nums.length := ⟨_, rfl⟩
  obtain ⟨Q, hQ⟩ : ∃ Q, Q = k.bytes.size := ⟨_, rfl⟩
  rw [← hM] at hkk hfm c3
  rw [← hR] at hfnn c2 hkn
  rw [← hQ] at hfb
  obtain ⟨w2, hw2, hb2, hz2, hK⟩ := TB.make w1 (U k.num) (.string k.bytes) (.slice a4 R p4) (.slice a5 M p5) 34
  have hb12 := via hb1 hb2
  have Hb12 := hid hb2
  have hsz12 : w1.heap.size ≤ w2.heap.size := hb2.size
  have hl2 := LaidE.below hl1 hb2 (LaidE.pos hl1)
  have ⟨ltV, v0, v1, v2, v3, _⟩ := hV.below hb2
  have ⟨ltK, k0, k1, k2, k3, _⟩ := hK
  have Hcell := hid fun W (hW : Below w2.heap.size w2 W) => show (W.cell? ⟨w.heap.size, 0, none⟩ = some (U (Node.num v)) ∧ W.cell? ⟨w.heap.size, 1, none⟩ = some (.string (Node.bytes v)) ∧ W.cell? ⟨w.heap.size, 2, none⟩ = some (.slice a2 (Node.nums v).length p2) ∧ W.cell? ⟨w.heap.size, 3, none⟩ = some (.slice (some ⟨bf, of, none⟩) N cap)) ∧
      (W.cell? ⟨w1.heap.size, 0, none⟩ = some (U k.num) ∧ W.cell? ⟨w1.heap.size, 1, none⟩ = some (.string k.bytes) ∧ W.cell? ⟨w1.heap.size, 2, none⟩ = some (.slice a4 R p4) ∧ W.cell? ⟨w1.heap.size, 3, none⟩ = some (.slice a5 M p5)) ∧
      (W.cell? ⟨bs, offs + t, none⟩ = some (.slice (some ⟨bl, offl, none⟩) N capl) ∧ W.cell? ⟨bl, offl + i * 2, none⟩ = some (.int .i64 3) ∧ W.cell? ⟨bl, offl + i * 2 + 1, none⟩ = some (.int .i64 (tn : Int))) from
    ⟨⟨(hW.cell ltV).trans v0, (hW.cell ltV).trans v1, (hW.cell ltV).trans v2, (hW.cell ltV).trans v3⟩, ⟨(hW.cell ltK).trans k0, (hW.cell ltK).trans k1, (hW.cell ltK).trans k2, (hW.cell ltK).trans k3⟩,
      ((hb2.trans (hW.mono hb2.size)).cell hbs3).trans hcl, ((hb2.trans (hW.mono hb2.size)).cell hbbl).trans r0, ((hb2.trans (hW.mono hb2.size)).cell hbbl).trans r1⟩
  have Hrd2 := hid fun W (hW : Below w2.heap.size w2 W) => Hrd.out W (hb2.trans (hW.mono hb2.size))
  have Hs2 := hid fun W (hW : Below w2.heap.size w2 W) => Hs.out W (hb2.trans (hW.mono hb2.size))
  have Htop := hid fun (x : Int) W (hW : Below w2.heap.size w2 W) => top_err x W (LaidE.below hl2 hW (LaidE.pos hl2))
  have Hcall := hid fun (path : List Int) (pv : Value) W (hW : Below w2.heap.size w2 W) (hp : Ints W pv path) => tget_any s (.slice (some ⟨bs, offs, none⟩) n scap) (d + 1) t v _ path pv W (Hs2.out W hW) (Hrd2.out W hW) hp
  have Hk := hid hk
  have HM := hid hM
  have HR := hid hR
  have HQ := hid hQ
  have HN := hid hN
  have Hn := hid hn
  have Hkh := hid hkh
  have Hksz := hid hksz
  have Hkf := hid hkf
  have Hkk := hid hkk
  have Hkn := hid hkn
  have Hc := hid hc
  have Hlt := hid hlt
  have u3 := hV.c3
  clear Hs Hrd hs h hk hM hR hQ hN hn hkh hksz hkf hkk hkn hknd hc hlt htl hNl hfp hf1 hf2 hf3 hf4 hf5 hcl r0 r1 hkr hnr hb2 hV hK hb1 hl1 hp hbs hfl hz1 hz2
  obtain ⟨hk0, hQ0, hM0, hR12⟩ := has3 (Hkh.out : hasV 3 _ _ _ _ = true)
  rw [← HQ.out] at hQ0
  rw [← HM.out] at hM0
  clear hk0
  subst hQ0 hM0
  have HQ2 := hid (show (k.bytes.size : Int) = ((0 : Nat) : Int) by rw [← HQ.out])
  have hQ3 : (k.bytes.size : Int) = ((0 : Nat) : Int) := HQ2.out
  go_enter Tryd.func13, Tryd.ntmps13
  go_wp2_with fail
  clear hw1 hw2 u3 c0 c1 c2 c3 v0 v1 v2 v3 k0 k1 k2 k3
  have hp3 := row_new w2 #[.int .i64 i] 3 1 1 rfl (by simp [maxLen])
  have hb3 := (Below.refl w2.heap.size w2).trans ((below_alloc w2 (.cells #[.int .i64 i] 3)).mono (Below.refl w2.heap.size w2).size)
  have hv3 := Hcall.out [i] _ _ hb3 hp3
  rw [Hget.out, getF3, pick_nil, ← HR.out] at hv3
  ((refine hv3.mono ?_); rintro r3 w3 ⟨rfl, hc3⟩)
  have hB3 := hb3.trans (hc3.mono hb3.size)
  clear hp3 hb3 hv3 hc3
  obtain ⟨⟨v0, v1, v2, v3⟩, ⟨k0, k1, k2, k3⟩, q0, q1, q2⟩ := Hcell.out _ hB3
  go_wp2_with fail
  clear v0 v1 v2 v3 k0 k1 k2 k3 q0 q1 q2
  ((refine (Htop.out 0 _ hB3).mono ?_); rintro r4 w4 ⟨rfl, hc4⟩)
  have hB4 := hB3.trans (hc4.mono hB3.size)
  clear hc4
  obtain ⟨⟨v0, v1, v2, v3⟩, ⟨k0, k1, k2, k3⟩, q0, q1, q2⟩ := Hcell.out _ hB4
  go_wp2_with fail
  clear v0 v1 v2 v3 k0 k1 k2 k3 q0 q1 q2
  have hp5 := row_new w4 #[.int .i64 i, .int .i64 R] 3 1 2 rfl (by simp [maxLen])
  have hb5 := hB4.trans ((below_alloc w4 (.cells #[.int .i64 i, .int .i64 R] 3)).mono hB4.size)
  have hv5 := Hcall.out [i, R] _ _ hb5 hp5
  rw [Hget.out, getF3, ← HR.out, pick_end] at hv5
  ((refine hv5.mono ?_); rintro r5 w5 ⟨rfl, hc5⟩)
  have hB5 := hb5.trans (hc5.mono hb5.size)
  clear hp5 hb5 hv5 hc5
  go_wp2_with fail
  have Hb0 := hid hB5
  clear hB5
  go_loopw [23] (fun jv wr => ∃ j : Nat, j ≤ R ∧ jv = .int .i64 j ∧ Below w2.heap.size w2 wr) (fun jv _ => R - (intOf jv).toNat)
  case atStart => exact ⟨0, Nat.zero_le _, rfl, Hb0.out⟩
  case round =>
    obtain ⟨j, hjM, rfl, hbl⟩ := hrel
    by_cases hj : j < R
    · obtain ⟨bn, on, cap9, e, _, _, hbn, hcn⟩ := Row.cons Hkn.out (by omega)
      simp only [Value.slice.injEq] at e
      obtain ⟨rfl, _, rfl⟩ := e
      obtain ⟨xj, hxj⟩ : ∃ x, x = k.nums.getD j 0#64 := ⟨_, rfl⟩
      have Hxj := hid hxj
      clear hxj
      have Hcj := hid fun W (hW : Below w2.heap.size w2 W) => show W.cell? ⟨bn, on + j, none⟩ = some (U xj) from (hW.cell (p := ⟨bn, on + j, none⟩) (Nat.lt_of_lt_of_le hbn hsz12)).trans ((Hb12.out.cell (p := ⟨bn, on + j, none⟩) hbn).trans (by rw [hcn j (by omega), Hxj.out]; exact row_num _ _ (by rw [← HR.out]; exact hj)))
      clear hcn hbn
      obtain ⟨⟨v0, v1, v2, v3⟩, ⟨k0, k1, k2, k3⟩, _, _, _⟩ := Hcell.out _ hbl
      go_wp2_with fail
      clear v0 v1 v2 v3 k0 k1 k2 k3
      have hp6 := row_new wr #[.int .i64 i, .int .i64 j] 3 1 2 rfl (by simp [maxLen])
      have hb6 := hbl.trans ((below_alloc wr (.cells #[.int .i64 i, .int .i64 j] 3)).mono hbl.size)
      have hv6 := Hcall.out [i, j] _ _ hb6 hp6
      rw [Hget.out, getF3, ← HR.out, pick_at _ _ _ hj, ← Hxj.out] at hv6
      ((refine hv6.mono ?_); rintro r6 w6 ⟨rfl, hc6⟩)
      have hB6 := hb6.trans (hc6.mono hb6.size)
      clear hp6 hb6 hv6 hc6
      obtain ⟨⟨v0, v1, v2, v3⟩, ⟨k0, k1, k2, k3⟩, _, _, _⟩ := Hcell.out _ hB6
      go_wp2_with fail
      clear v0 v1 v2 v3 k0 k1 k2 k3
      have hp7 := row_new w6 #[.int .i64 i, .int .i64 j, .int .i64 0] 3 1 3 rfl (by simp [maxLen])
      have hb7 := hB6.trans ((below_alloc w6 (.cells #[.int .i64 i, .int .i64 j, .int .i64 0] 3)).mono hB6.size)
      have hv7 := Hcall.out [i, j, 0] _ _ hb7 hp7
      rw [Hget.out, getF3, ← HR.out, pick_more _ _ _ hj] at hv7
      ((refine hv7.mono ?_); rintro r7 w7 ⟨rfl, hc7⟩)
      have hB7 := hb7.trans (hc7.mono hb7.size)
      clear hp7 hb7 hv7 hc7
      obtain ⟨⟨v0, v1, v2, v3⟩, ⟨k0, k1, k2, k3⟩, _, _, _⟩ := Hcell.out _ hB7
      go_wp2_with fail
      clear v0 v1 v2 v3 k0 k1 k2 k3
      ((refine (Htop.out 0 _ hB7).mono ?_); rintro r8 w8 ⟨rfl, hc8⟩)
      have hB8 := hB7.trans (hc8.mono hB7.size)
      clear hc8
      obtain ⟨⟨_, _, _, _⟩, ⟨k0, k1, k2, k3⟩, _, _, _⟩ := Hcell.out _ hB8
      have c9 := Hcj.out _ hB8
      go_wp2_with fail
      clear k0 k1 k2 k3
      clear c9
      ((refine (Htop.out 24 _ hB8).mono ?_); rintro r9 w9 ⟨rfl, hc9⟩)
      have hB9 := hB8.trans (hc9.mono hB8.size)
      clear hc9
      obtain ⟨⟨_, _, _, _⟩, ⟨k0, k1, k2, k3⟩, _, _, _⟩ := Hcell.out _ hB9
      go_wp2_with fail
      clear k0 k1 k2 k3
      go_roundw
      case rel => exact ⟨j + 1, by omega, by go_num, hB9⟩
      case measure => simp [intOf] <;> omega
    · obtain rfl : j = R := by omega
      go_wp2_with fail
      ((refine (Htop.out 12 _ hbl).mono ?_); rintro r10 w10 ⟨rfl, hc10⟩)
      have hB10 := hbl.trans (hc10.mono hbl.size)
      clear hc10
      go_wp2_with fail
      go_returns
      exact ⟨rfl, via hb12 hB10⟩
end Go.Proofs.YtmcpanjpjnlleaaDoor


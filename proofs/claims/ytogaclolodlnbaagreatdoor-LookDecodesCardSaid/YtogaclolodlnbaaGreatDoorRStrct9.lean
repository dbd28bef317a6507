/- The document's strct of layer 9: a struct of right words is decoded. -/
import Derived.Test.YtogaclolodlnbaaGreatDoorDecode
import Derived.Test.YtogaclolodlnbaaGreatDoorGo
import Derived.Test.YtogaclolodlnbaaGreatDoorGg
import Derived.Test.YtogaclolodlnbaaGreatDoorVCheck
import Derived.Deep.AppendLies
set_option linter.unusedVariables false
set_option linter.unusedSimpArgs false
namespace Go.Proofs.YtogaclolodlnbaaGreatDoor
section SRStrct9
open Go.RowKit

theorem mask_lo (x : BitVec 64) : (x &&& 4294967295#64).toInt = (loN x : Nat) := by
  have e : (x &&& 4294967295#64).toNat = x.toNat % 4294967296 := by
    rw [BitVec.toNat_and, show (4294967295#64).toNat = 2 ^ 32 - 1 from rfl, Nat.and_two_pow_sub_one_eq_mod]
  rw [BitVec.toInt_eq_toNat_cond, e, if_pos (by omega)]
  rfl
theorem fieldJ_nums {k n c' g B : Nat} {ys : List (BitVec 64)} {wr wk w6 w5 : World} (hlen : ys.length = n) (hn : n ≤ 12) (ho : w6.ownsRow wk.heap.size 26 1 (.slice (some ⟨g, 0, none⟩) n c') n (ys.map U)) (hBk : B < wk.heap.size) (hwrk : Below wr.heap.size wr wk) (hb6 : Below wk.heap.size wk w6) (hBi : wr.heap.size ≤ B)
    (hK : TB w6 B (.int .u64 0) (.string ⟨#[]⟩) (.slice none 0 0) (.slice none 0 0)) (hw5 : w6.setCell ⟨B, 2, none⟩ (.slice (some ⟨g, 0, none⟩) n c') = w5) :
    FieldJ (⟨0#64, ⟨#[]⟩, ys, []⟩ : Node (St k)) wr w5 B (.int .u64 0) (.string ⟨#[]⟩) (.slice (some ⟨g, 0, none⟩) n c') (.slice none 0 0) := by
  have ho5 : w5.ownsRow wk.heap.size 26 1 (.slice (some ⟨g, 0, none⟩) n c') n (ys.map U) := by
    rw [← hw5]
    exact own_keep ho fun g e => Below.heap_setCell _ _ _ _ (by have := (own_blk ho e).2; show g ≠ B; omega)
  exact ⟨hw5 ▸ (hwrk.trans (hb6.mono hwrk.size)).setCell (by show wr.heap.size ≤ B; omega) _, hw5 ▸ hK.set2 _, fun W hW => RdN.mk' (t := ⟨0#64, ⟨#[]⟩, ys, []⟩) ⟨by show (⟨#[]⟩ : ByteArray).size ≤ 1000; decide, by show ys.length ≤ 1000; omega, by simp⟩ (by
    have := kw_own (G := fun b => b < wr.heap.size) ho5 (fun g e => by have := (own_blk ho5 e).2; have := hwrk.size; show ¬ g < wr.heap.size; omega) W hW
    show Row W 1 _ ys.length _
    rw [hlen]; exact this) (Kids.nil _ W)⟩

set_option maxRecDepth 100000 in
set_option maxHeartbeats 200000000 in
theorem strct9_step (s : Schema) (hr : rightB s = true) (ws : List (BitVec 64)) (hL0 : 0 < ws.length) (hL200 : ws.length ≤ 200) (sv wv : Value) (k : Nat)
    (ih : ∀ k0, k = k0 + 1 → ∀ (t : Nat), t < s.length → ∀ (p : Nat) (w : World), Sch w sv s → Row w 1 wv ws.length (ws.map U) → VisOk s ws k0 t p → Calls Tryz.prog 45 #[sv, wv, .int .i64 t, .int .i64 p] w (DecP s ws k0 t p w))
    (t : Nat) (ht : t < s.length) (p : Nat) (w : World) (hs : Sch w sv s) (hrow : Row w 1 wv ws.length (ws.map U)) (hv : VisOk s ws k t p) :
    Calls Tryz.prog 45 #[sv, wv, .int .i64 t, .int .i64 p] w (DecP s ws k t p w) := by
  obtain ⟨iT, hiT, hzT, hsT, hbT⟩ := info_parts (show (Tryz.prog.info? 36).map (fun i => (i.zero, i.size, i.bytes)) = some (some (.agg #[.int .u64 0, .string ByteArray.empty, .slice none 0 0, .slice none 0 0]), 4, 72) by kernel_rfl)
  obtain ⟨iU, hiU, hzU, hsU, hbU⟩ := info_parts (show (Tryz.prog.info? 26).map (fun i => (i.zero, i.size, i.bytes)) = some (some (.int .u64 0), 1, 8) by kernel_rfl)
  obtain ⟨l, hl⟩ := get_lt ht
  have htl := typeL_at hl
  obtain ⟨N, hN⟩ : ∃ N, N = (typeL s t).length := ⟨_, rfl⟩
  have hN6 : N ≤ 6 := by rw [hN]; exact typeL_six hr t
  have hpN : p + N ≤ ws.length := by rw [hN]; exact hv.1
  obtain ⟨F, hF⟩ : ∃ F : Nat → Node (St k), F = fun (i : Nat) => decF ws (decR s ws k) (fieldP s t i) (p + i) := ⟨_, rfl⟩
  have Hgoal := hid (show decS s ws k t p = (⟨0#64, ⟨#[]⟩, [], (List.range N).map F⟩ : Node (Node (St k))) from by rw [hF, hN]; rfl)
  have HF := hid fun (i : Nat) => show F i = decF ws (decR s ws k) (fieldP s t i) (p + i) by rw [hF]
  have Hone := hid fun (i : Nat) (hi : i < N) => show OneOk s ws k (fieldP s t i) (p + i) from vis_one hv (by rw [← hN]; exact hi)
  have Hkd := hid fun (i : Nat) (hi : i < N) => field_kd (t := (t : Int)) (i := i) hr (by rw [← hN]; exact hi)
  obtain ⟨bw, offw, cap, hwv, hcap1, hcap2, hbw, hcw⟩ := hrow.cons hL0
  obtain ⟨sa, scap, hsv, -, -, hsm⟩ := hs.shape
  obtain ⟨ns, hns⟩ : ∃ ns, ns = s.length := ⟨_, rfl⟩
  have Hns := hid hns
  rw [← hns] at hsv ht
  subst hwv hsv
  obtain ⟨sb, so, la, lc, hsa, hsb, hsc, hflds, hfm1, hfm2, hfm3⟩ := hs.at_ hl
  subst hsa
  have hNl : N = l.length := by rw [hN, htl]
  rw [← hNl] at hsc hflds hfm1 hfm2
  have HNl := hid hNl
  obtain ⟨L, hL⟩ : ∃ L, L = ws.length := ⟨_, rfl⟩
  have HL := hid hL
  have Hsch := hid fun W (hW : Below w.heap.size w W) => hs.below hW (Nat.le_refl _)
  have Hrow := hid fun W (hW : Below w.heap.size w W) => show Row W 1 (.slice (some ⟨bw, offw, none⟩) L cap) ws.length (ws.map U) from by rw [hL]; exact hrow.below hW (Nat.le_refl _)
  have Hcell := hid fun W (hW : Below w.heap.size w W) (q : Nat) (hq : q < L) => show W.cell? ⟨bw, offw + q, none⟩ = some (U (ws.getD q 0#64)) from by
    rw [(hW.cell (p := ⟨bw, offw + q, none⟩) hbw), hcw q (by omega), List.getElem?_map, List.getElem?_eq_getElem (by omega), List.getD_eq_getElem?_getD, List.getElem?_eq_getElem (by omega)]
    rfl
  have Hfl := hid fun W (hW : Below w.heap.size w W) (i : Nat) (hi : i < N) => show ∃ b off, la = some ⟨b, off, none⟩ ∧ W.cell? ⟨b, off + i * 2, none⟩ = some (.int .i64 (fieldP s t i).1) ∧ W.cell? ⟨b, off + i * 2 + 1, none⟩ = some (.int .i64 (fieldP s t i).2) from by
    obtain ⟨q, hq⟩ := get_lt (l := l) (i := i) (by rw [← hNl]; exact hi)
    obtain ⟨b, off, e, hb, h1, h2⟩ := hflds.at_ hq
    have hfp : fieldP s t i = q := fieldP_at (by rw [htl]; exact hq)
    rw [hfp]
    exact ⟨b, off, e, (hW.cell (p := ⟨b, off + i * 2, none⟩) hb).trans h1, (hW.cell (p := ⟨b, off + i * 2 + 1, none⟩) hb).trans h2⟩
  rw [← hL] at hcap1 hpN hL200 ⊢
  have Hih := hid ih
  obtain ⟨w1, hw1, hb1, hz1, hR⟩ := TB.make w (.int .u64 0) (.string ⟨#[]⟩) (.slice none 0 0) (.slice none 0 0) 36
  obtain ⟨w2, hw2, hb2, hz2, hV⟩ := TB.make w1 (.int .u64 0) (.string ⟨#[]⟩) (.slice none 0 0) (.slice none 0 0) 36
  obtain ⟨V, hVe⟩ : ∃ V, w.heap.size + 1 = V := ⟨_, rfl⟩
  have hbw2 := via hb1 hb2
  rw [hz1, hVe] at hV
  have hrel0 := hid (show OutD F w w2 w.heap.size V N (.int .i64 0) w2 from ⟨0, [], .slice none 0 0, Nat.zero_le _, rfl, ⟨hbw2, Nat.le_refl _, hV, hR.below hb2, own_nil _ _ _ _, KK.nil _ _ _, Nat.le_refl _, by omega, by omega⟩⟩)
  have htns0 : (t : Int) < (ns : Int) := by omega
  clear hR hV hb1 hb2 hF hN hs hrow hv hcw hL ih hns hflds hl htl hNl
  go_enter Tryz.func45, Tryz.ntmps45
  go_wp2_with fail
  clear hw1 hw2
  go_loopw [10] (fun iv wr => OutD F w w2 w.heap.size V N iv wr) (fun iv _ => N - (intOf iv).toNat)
  case atStart => exact hrel0.out
  case round =>
    clear hrel0
    obtain ⟨i, xs, vk, hi, rfl, hI⟩ := hrel
    obtain ⟨ao, co, rfl⟩ := own_shape hI.own
    have sc := (hI.bl.cell (p := ⟨sb, so + t, none⟩) hsb).trans hsc
    by_cases hilt : i < N
    · have hilt' : (i : Int) < (N : Int) := by omega
      obtain ⟨bl, offl, rfl, r0, r1⟩ := Hfl.out wr hI.bl i hilt
      obtain ⟨x, hx⟩ : ∃ x, x = ws.getD (p + i) 0#64 := ⟨_, rfl⟩
      have xc := Hcell.out _ hI.bl (p + i) (by omega)
      have hO := Hone.out i hilt
      have hkd := Hkd.out i hilt
      have hFi := HF.out i
      unfold OneOk at hO
      generalize fieldP s t i = fd at *
      obtain ⟨kd, ty⟩ := fd
      simp only at hkd hO r0 r1
      unfold decF at hFi
      simp only at hFi
      rw [← hx] at hO hFi xc
      obtain ⟨tn, rfl⟩ : ∃ tn : Nat, ty = (tn : Int) := ⟨ty.toNat, by omega⟩
      have htn : tn < ns := by have := Hns.out; omega
      obtain ⟨lo, hlo⟩ : ∃ lo, lo = loN x := ⟨_, rfl⟩
      obtain ⟨n, hn⟩ : ∃ n, n = hiN x := ⟨_, rfl⟩
      have hshr : (x >>> 32).toInt = (n : Int) := by rw [hi_shr, hn]; rfl
      have hmask : (x &&& 4294967295#64).toInt = (lo : Int) := by rw [mask_lo, hlo]
      have hlo32 : lo < 4294967296 := by rw [hlo]; unfold loN; omega
      have hn32 : n < 4294967296 := by rw [hn]; unfold hiN; have := x.isLt; omega
      rw [← hlo, ← hn] at hO hFi
      obtain ⟨q, hq⟩ : ∃ q, q = p + i := ⟨_, rfl⟩
      have hqL : (q : Int) < (L : Int) := by omega
      have hpi : IntKind.i64.wrap ((p : Int) + (i : Int)) = (q : Int) := by rw [hq, Int.natCast_add]; exact IntWalk.i64_in _ (by omega)
      rw [← hq] at hO hFi xc
      obtain ⟨to, hto⟩ : ∃ to, to = q + lo := ⟨_, rfl⟩
      have hqt : IntKind.i64.wrap ((q : Int) + (lo : Int)) = (to : Int) := by rw [hto, Int.natCast_add]; exact IntWalk.i64_in _ (by omega)
      rw [← hto] at hO hFi
      have HFi := hid hFi
      have hto64 : to ≤ 4294967500 := by omega
      clear hx hlo hn hq hto hFi
      obtain ⟨wf, hwf, hbf, hltf, hboxf⟩ := boxed wr #[.int .i64 kd, .int .i64 (tn : Int)] 44
      have g0 : wf.cell? ⟨wr.heap.size, 0, none⟩ = some (.int .i64 kd) := hboxf 0
      have g1 : wf.cell? ⟨wr.heap.size, 1, none⟩ = some (.int .i64 (tn : Int)) := hboxf 1
      obtain ⟨wk, hwk, hbk, hzk, hKB⟩ := TB.make wf (.int .u64 0) (.string ⟨#[]⟩) (.slice none 0 0) (.slice none 0 0) 36
      have gk0 := (hbk.cell (p := ⟨wr.heap.size, 0, none⟩) hltf).trans g0
      have gk1 := (hbk.cell (p := ⟨wr.heap.size, 1, none⟩) hltf).trans g1
      have hwrk : Below wr.heap.size wr wk := via hbf hbk
      have hbwk : Below w.heap.size w wk := hI.bl.trans (hwrk.mono hI.bl.size)
      have xcf := (hbf.cell (p := ⟨bw, offw + q, none⟩) (Nat.lt_of_lt_of_le hbw hI.bl.size)).trans xc
      obtain ⟨B, hBe⟩ : ∃ B, wf.heap.size = B := ⟨_, rfl⟩
      have hBi : wr.heap.size ≤ B := by rw [← hBe]; exact hbf.size
      rw [hBe] at hKB
      have hBk : B < wk.heap.size := hKB.lt
      have hwfk := hbk
      have hfBB : wr.heap.size < B := by omega
      clear hboxf hzk
      rcases (show kd = 1 ∨ kd = 2 ∨ kd = 3 ∨ kd = 4 ∨ kd = 5 by omega) with rfl | rfl | rfl | rfl | rfl
      · skip
        have ⟨_, k0, k1, k2, k3, kf⟩ := hKB
        have kf0 := kf 0
        have kf1 := kf 1
        have kf2 := kf 2
        obtain ⟨w5, hw5⟩ : ∃ w5, wk.setCell ⟨B, 0, none⟩ (U x) = w5 := ⟨_, rfl⟩
        have hFe : (⟨x, ⟨#[]⟩, [], []⟩ : Node (St k)) = F i := by rw [HFi.out, if_pos rfl]
        have hF5 : FieldJ (⟨x, ⟨#[]⟩, [], []⟩ : Node (St k)) wr w5 B (U x) (.string ⟨#[]⟩) (.slice none 0 0) (.slice none 0 0) :=
          hw5 ▸ ⟨hwrk.setCell (by show wr.heap.size ≤ B; omega) _, hKB.set0 _, fun W hW => RdN.mk' (t := ⟨x, ⟨#[]⟩, [], []⟩) ⟨by show (⟨#[]⟩ : ByteArray).size ≤ 1000; decide, by simp, by simp⟩ (Row.nil W 1) (Kids.nil _ W)⟩
        clear hO
        have htv5 := hI.tv.below hF5.bl
        have ⟨_, v0, v1, v2, v3, vf⟩ := htv5
        have ⟨_, q0, q1, q2, q3, _⟩ := hF5.tb
        have hba5 := below_alloc w5 (.cells #[U x, (.string ⟨#[]⟩), (.slice none 0 0), (.slice none 0 0)] 36)
        have hown5 := own_beneath hI.own (via hF5.bl hba5)
        have hle5 : w2.heap.size ≤ (w5.alloc (.cells #[U x, (.string ⟨#[]⟩), (.slice none 0 0), (.slice none 0 0)] 36)).heap.size := Nat.le_trans hI.sz (via hF5.bl hba5).size
        have htv6 := htv5.below hba5
        have hvne : (Value.slice ao i co).ownBlock ≠ some V := (fun e => by have := (own_blk hI.own e).2; have := hI.vr; omega)
        go_wp2_with (at_builtin; go_must (refine wpList_append_own_at _ rfl (.tmp 121) (.tmp 123) 34 rfl w2.heap.size 36 iT _ 4 72 Tryz.underlying34 hiT hzT hsT hbT rfl (by omega) _ i _ rfl hown5 ⟨w5.heap.size, 0, none⟩ 1 1 [U x, (.string ⟨#[]⟩), (.slice none 0 0), (.slice none 0 0)] rfl rfl (news_at _ _ rfl #[U x, (.string ⟨#[]⟩), (.slice none 0 0), (.slice none 0 0)] 36) (by simp [Value.oneCell', U]) (by unfold maxLen; omega) (by omega) hle5 ?_); intro v7 w7 ho7 hg7 _ hat7; have ⟨_, _, _, _, y3, yf⟩ := htv6.grown hg7 hvne; have yf3 := yf 3; obtain ⟨a7, c7, rfl⟩ := own_shape ho7; have hrel2 := hid (show OutD F w w2 w.heap.size V N (.int .i64 (i + 1 : Nat)) _ from ⟨i + 1, _, _, by omega, rfl, hI.next hF5 hFe hba5 ho7 hg7 hat7⟩))
        go_roundw
        case rel => exact hrel2.out
        case measure => simp [intOf] <;> omega
      · by_cases hx0 : x = 0#64
        · skip
          have ⟨_, k0, k1, k2, k3, kf⟩ := hKB
          have kf0 := kf 0
          have kf1 := kf 1
          have kf2 := kf 2
          subst hx0
          obtain ⟨w5, hw5⟩ : ∃ w5, w5 = wk := ⟨_, rfl⟩
          have hFe : (⟨0#64, ⟨#[]⟩, [], []⟩ : Node (St k)) = F i := by rw [HFi.out, if_neg (by decide), if_pos rfl]
          have hF5 : FieldJ (⟨0#64, ⟨#[]⟩, [], []⟩ : Node (St k)) wr w5 B (.int .u64 0) (.string ⟨#[]⟩) (.slice none 0 0) (.slice none 0 0) :=
            hw5 ▸ ⟨hwrk, hKB, fun W hW => RdN.mk' (t := ⟨0#64, ⟨#[]⟩, [], []⟩) ⟨by show (⟨#[]⟩ : ByteArray).size ≤ 1000; decide, by simp, by simp⟩ (Row.nil W 1) (Kids.nil _ W)⟩
          subst hw5
          clear hO
          have htv5 := hI.tv.below hF5.bl
          have ⟨_, v0, v1, v2, v3, vf⟩ := htv5
          have ⟨_, q0, q1, q2, q3, _⟩ := hF5.tb
          have hba5 := below_alloc w5 (.cells #[.int .u64 0, (.string ⟨#[]⟩), (.slice none 0 0), (.slice none 0 0)] 36)
          have hown5 := own_beneath hI.own (via hF5.bl hba5)
          have hle5 : w2.heap.size ≤ (w5.alloc (.cells #[.int .u64 0, (.string ⟨#[]⟩), (.slice none 0 0), (.slice none 0 0)] 36)).heap.size := Nat.le_trans hI.sz (via hF5.bl hba5).size
          have htv6 := htv5.below hba5
          have hvne : (Value.slice ao i co).ownBlock ≠ some V := (fun e => by have := (own_blk hI.own e).2; have := hI.vr; omega)
          go_wp2_with (at_builtin; go_must (refine wpList_append_own_at _ rfl (.tmp 121) (.tmp 123) 34 rfl w2.heap.size 36 iT _ 4 72 Tryz.underlying34 hiT hzT hsT hbT rfl (by omega) _ i _ rfl hown5 ⟨w5.heap.size, 0, none⟩ 1 1 [.int .u64 0, (.string ⟨#[]⟩), (.slice none 0 0), (.slice none 0 0)] rfl rfl (news_at _ _ rfl #[.int .u64 0, (.string ⟨#[]⟩), (.slice none 0 0), (.slice none 0 0)] 36) (by simp [Value.oneCell', U]) (by unfold maxLen; omega) (by omega) hle5 ?_); intro v7 w7 ho7 hg7 _ hat7; have ⟨_, _, _, _, y3, yf⟩ := htv6.grown hg7 hvne; have yf3 := yf 3; obtain ⟨a7, c7, rfl⟩ := own_shape ho7; have hrel2 := hid (show OutD F w w2 w.heap.size V N (.int .i64 (i + 1 : Nat)) _ from ⟨i + 1, _, _, by omega, rfl, hI.next hF5 hFe hba5 ho7 hg7 hat7⟩))
          go_roundw
          case rel => exact hrel2.out
          case measure => simp [intOf] <;> omega
        · have nx0 : (x == 0#64) = false := by rw [beq_eq_false_iff_ne]; exact hx0
          have nx1 : (x != 0#64) = true := bne_iff_ne.2 hx0
          have ⟨_, k0, k1, k2, k3, kf⟩ := hKB
          have kf0 := kf 0
          have kf1 := kf 1
          have kf2 := kf 2
          have hn0 : 0 < n := by
            rcases hO with hO | hO | ⟨_, _, h1, h2, h3, h4⟩
            · exact absurd hO (by decide)
            · exact absurd hO hx0
            · exact h2
          obtain ⟨hn40, hto2, htok⟩ : n ≤ 40 ∧ to + (n + 7) / 8 ≤ ws.length ∧ textOk ((ws.drop to).take ((n + 7) / 8)) n = true := by
            rcases hO with hO | hO | ⟨_, _, h1, h2, h3, h4⟩
            · exact absurd hO (by decide)
            · exact absurd hO hx0
            · rcases h4 with h4 | h4 | h4
              · exact absurd h4.1 (by decide)
              · exact ⟨by unfold mostN at h3; simpa using h3, h4.2⟩
              · exact absurd rfl h4.1
          have htsz := textV_size htok
          have hFi := HFi.out
          rw [if_neg (by decide), if_neg hx0, if_pos rfl] at hFi
          have hcount := rcount_q n (by omega)
          obtain ⟨m, hm⟩ : ∃ m, m = (n + 7) / 8 := ⟨_, rfl⟩
          rw [← hm] at hto2 hcount hFi htsz htok
          have hm0 : 0 < m := by omega
          have htext := hid (rtext_any ((ws.drop to).take m) (.slice (some ⟨bw, offw + to, none⟩) m (cap - to)) n wk (row_sub (Hrow.out wk hbwk) HL.out to m (by rw [HL.out]; exact hto2)) ⟨by omega, by omega⟩ (by rw [List.length_take]; omega))
          have c1 : (0 : Int) ≤ (to : Int) + (m : Int) := by omega
          have c2 : (to : Int) + (m : Int) ≤ (cap : Int) := by have := HL.out; omega
          have c3 : ((to : Int) + (m : Int)).toNat = to + m := by omega
          have c4 : ¬ cap = to := by have := HL.out; omega
          have htm : IntKind.i64.wrap ((to : Int) + (m : Int)) = (to : Int) + m := IntWalk.i64_in _ (by omega)
          generalize htx : textV ((ws.drop to).take m) n = tx at *
          rw [htok] at htext
          have hFi' := hid hFi
          clear htok hm hO hto2 hFi HFi
          go_wp2_with fail
          ((refine (hcount _).mono ?_); rintro rc wc ⟨rfl, rfl⟩)
          go_wp2_with fail
          ((refine htext.out.mono ?_); rintro rt wt ⟨rfl, hbt⟩)
          have hKt := hKB.below hbt
          have ⟨_, t0, t1, t2, t3, tf⟩ := hKt
          have tf1 := tf 1
          obtain ⟨w5, hw5⟩ : ∃ w5, wt.setCell ⟨B, 1, none⟩ (.string ⟨tx.toArray⟩) = w5 := ⟨_, rfl⟩
          have hFe : (⟨0#64, ⟨tx.toArray⟩, [], []⟩ : Node (St k)) = F i := hFi'.out.symm
          have htsz2 : (⟨tx.toArray⟩ : ByteArray).size ≤ 1000 := by
            show tx.toArray.size ≤ 1000
            rw [List.size_toArray]; omega
          have hF5 : FieldJ (⟨0#64, ⟨tx.toArray⟩, [], []⟩ : Node (St k)) wr w5 B (.int .u64 0) (.string ⟨tx.toArray⟩) (.slice none 0 0) (.slice none 0 0) :=
            hw5 ▸ ⟨(hwrk.trans (hbt.mono hwrk.size)).setCell (by show wr.heap.size ≤ B; omega) _, hKt.set1 _, fun W hW => RdN.mk' (t := ⟨0#64, ⟨tx.toArray⟩, [], []⟩) ⟨htsz2, by simp, by simp⟩ (Row.nil W 1) (Kids.nil _ W)⟩
          clear htsz htsz2 htext hcount k0 k1 k2 k3 kf kf0 kf1 kf2
          have htv5 := hI.tv.below hF5.bl
          have ⟨_, v0, v1, v2, v3, vf⟩ := htv5
          have ⟨_, q0, q1, q2, q3, _⟩ := hF5.tb
          have hba5 := below_alloc w5 (.cells #[.int .u64 0, .string ⟨tx.toArray⟩, (.slice none 0 0), (.slice none 0 0)] 36)
          have hown5 := own_beneath hI.own (via hF5.bl hba5)
          have hle5 : w2.heap.size ≤ (w5.alloc (.cells #[.int .u64 0, .string ⟨tx.toArray⟩, (.slice none 0 0), (.slice none 0 0)] 36)).heap.size := Nat.le_trans hI.sz (via hF5.bl hba5).size
          have htv6 := htv5.below hba5
          have hvne : (Value.slice ao i co).ownBlock ≠ some V := (fun e => by have := (own_blk hI.own e).2; have := hI.vr; omega)
          go_wp2_with (at_builtin; go_must (refine wpList_append_own_at _ rfl (.tmp 121) (.tmp 123) 34 rfl w2.heap.size 36 iT _ 4 72 Tryz.underlying34 hiT hzT hsT hbT rfl (by omega) _ i _ rfl hown5 ⟨w5.heap.size, 0, none⟩ 1 1 [.int .u64 0, .string ⟨tx.toArray⟩, (.slice none 0 0), (.slice none 0 0)] rfl rfl (news_at _ _ rfl #[.int .u64 0, .string ⟨tx.toArray⟩, (.slice none 0 0), (.slice none 0 0)] 36) (by simp [Value.oneCell', U]) (by unfold maxLen; omega) (by omega) hle5 ?_); intro v7 w7 ho7 hg7 _ hat7; have ⟨_, _, _, _, y3, yf⟩ := htv6.grown hg7 hvne; have yf3 := yf 3; obtain ⟨a7, c7, rfl⟩ := own_shape ho7; have hrel2 := hid (show OutD F w w2 w.heap.size V N (.int .i64 (i + 1 : Nat)) _ from ⟨i + 1, _, _, by omega, rfl, hI.next hF5 hFe hba5 ho7 hg7 hat7⟩))
          go_roundw
          case rel => exact hrel2.out
          case measure => simp [intOf] <;> omega
      · by_cases hx0 : x = 0#64
        · skip
          have ⟨_, k0, k1, k2, k3, kf⟩ := hKB
          have kf0 := kf 0
          have kf1 := kf 1
          have kf2 := kf 2
          subst hx0
          obtain ⟨w5, hw5⟩ : ∃ w5, w5 = wk := ⟨_, rfl⟩
          have hFe : (⟨0#64, ⟨#[]⟩, [], []⟩ : Node (St k)) = F i := by rw [HFi.out, if_neg (by decide), if_pos rfl]
          have hF5 : FieldJ (⟨0#64, ⟨#[]⟩, [], []⟩ : Node (St k)) wr w5 B (.int .u64 0) (.string ⟨#[]⟩) (.slice none 0 0) (.slice none 0 0) :=
            hw5 ▸ ⟨hwrk, hKB, fun W hW => RdN.mk' (t := ⟨0#64, ⟨#[]⟩, [], []⟩) ⟨by show (⟨#[]⟩ : ByteArray).size ≤ 1000; decide, by simp, by simp⟩ (Row.nil W 1) (Kids.nil _ W)⟩
          subst hw5
          clear hO
          have htv5 := hI.tv.below hF5.bl
          have ⟨_, v0, v1, v2, v3, vf⟩ := htv5
          have ⟨_, q0, q1, q2, q3, _⟩ := hF5.tb
          have hba5 := below_alloc w5 (.cells #[.int .u64 0, (.string ⟨#[]⟩), (.slice none 0 0), (.slice none 0 0)] 36)
          have hown5 := own_beneath hI.own (via hF5.bl hba5)
          have hle5 : w2.heap.size ≤ (w5.alloc (.cells #[.int .u64 0, (.string ⟨#[]⟩), (.slice none 0 0), (.slice none 0 0)] 36)).heap.size := Nat.le_trans hI.sz (via hF5.bl hba5).size
          have htv6 := htv5.below hba5
          have hvne : (Value.slice ao i co).ownBlock ≠ some V := (fun e => by have := (own_blk hI.own e).2; have := hI.vr; omega)
          go_wp2_with (at_builtin; go_must (refine wpList_append_own_at _ rfl (.tmp 121) (.tmp 123) 34 rfl w2.heap.size 36 iT _ 4 72 Tryz.underlying34 hiT hzT hsT hbT rfl (by omega) _ i _ rfl hown5 ⟨w5.heap.size, 0, none⟩ 1 1 [.int .u64 0, (.string ⟨#[]⟩), (.slice none 0 0), (.slice none 0 0)] rfl rfl (news_at _ _ rfl #[.int .u64 0, (.string ⟨#[]⟩), (.slice none 0 0), (.slice none 0 0)] 36) (by simp [Value.oneCell', U]) (by unfold maxLen; omega) (by omega) hle5 ?_); intro v7 w7 ho7 hg7 _ hat7; have ⟨_, _, _, _, y3, yf⟩ := htv6.grown hg7 hvne; have yf3 := yf 3; obtain ⟨a7, c7, rfl⟩ := own_shape ho7; have hrel2 := hid (show OutD F w w2 w.heap.size V N (.int .i64 (i + 1 : Nat)) _ from ⟨i + 1, _, _, by omega, rfl, hI.next hF5 hFe hba5 ho7 hg7 hat7⟩))
          go_roundw
          case rel => exact hrel2.out
          case measure => simp [intOf] <;> omega
        · have nx0 : (x == 0#64) = false := by rw [beq_eq_false_iff_ne]; exact hx0
          have nx1 : (x != 0#64) = true := bne_iff_ne.2 hx0
          have ⟨_, k0, k1, k2, k3, kf⟩ := hKB
          have kf0 := kf 0
          have kf1 := kf 1
          have kf2 := kf 2
          have hn0 : 0 < n := by
            rcases hO with hO | hO | ⟨_, _, h1, h2, h3, h4⟩
            · exact absurd hO (by decide)
            · exact absurd hO hx0
            · exact h2
          obtain ⟨hn12, hto2⟩ : n ≤ 12 ∧ to + n ≤ ws.length := by
            rcases hO with hO | hO | ⟨_, _, h1, h2, h3, h4⟩
            · exact absurd hO (by decide)
            · exact absurd hO hx0
            · rcases h4 with h4 | h4 | h4
              · exact ⟨by unfold mostN at h3; simpa using h3, h4.2⟩
              · exact absurd h4.1 (by decide)
              · exact absurd rfl h4.2.1
          have hFi := HFi.out
          rw [if_neg (by decide), if_neg hx0, if_neg (by decide), if_pos rfl] at hFi
          have c1 : (0 : Int) ≤ (to : Int) + (n : Int) := by omega
          have c2 : (to : Int) + (n : Int) ≤ (cap : Int) := by have := HL.out; omega
          have c3 : ((to : Int) + (n : Int)).toNat = to + n := by omega
          have c4 : ¬ cap = to := by have := HL.out; omega
          have htm : IntKind.i64.wrap ((to : Int) + (n : Int)) = (to : Int) + n := IntWalk.i64_in _ (by omega)
          have hbk' := below_alloc wk (.cells #[] 26)
          have hrowk := row_sub (Hrow.out (wk.alloc (.cells #[] 26)) (hbwk.trans (hbk'.mono hbwk.size))) HL.out to n (by rw [HL.out]; exact hto2)
          have hlen : ((ws.drop to).take n).length = n := by rw [List.length_take, List.length_drop]; omega
          have hnl := hid (show (((ws.drop to).take n).map U).length = n * 1 by rw [List.length_map, hlen]; omega)
          have hone1 := hid (show ∀ u ∈ ((ws.drop to).take n).map U, u.oneCell' = true from fun u hu => by obtain ⟨y, _, rfl⟩ := List.mem_map.1 hu; rfl)
          have hnews := hid fun (j : Nat) (u : Value) (hu : (((ws.drop to).take n).map U)[j]? = some u) => show (wk.alloc (.cells #[] 26)).cell? ((⟨bw, offw + to, none⟩ : Addr).add j) = some u from by
            have hj : j < n := by have := (List.getElem?_eq_some_iff.1 hu).1; rw [List.length_map, hlen] at this; exact this
            rw [← hu, Addr.add_lit]
            exact (hrowk.cells (by rw [hlen]; exact hn0)).2 j (by rw [hlen]; omega)
          generalize hys : (ws.drop to).take n = ys at *
          have hFi' := hid hFi
          clear hO hto2 hrowk hFi HFi
          go_wp2_with (first | (at_builtin; refine wpList_append_lies (w := wk.alloc (.cells #[] 26)) rfl (.tmp 84) (.tmp 90) 22 rfl wk.heap.size 26 iU _ 1 8 Tryz.underlying22 hiU hzU hsU hbU rfl (by omega) (.slice (some ⟨wk.heap.size, 0, none⟩) 0 0) 0 [] rfl (World.ownsRow_made wk #[] 0 (Nat.le_refl _) (by simp [maxLen]) rfl) ⟨bw, offw + to, none⟩ n (cap - to) (ys.map U) rfl hnl.out hnews.out hone1.out (by omega) (by unfold maxLen; omega) (by omega) (by simp) (wk.heap.size + 1) (by simp) ?_; intro g c' w6 h6 h7 h8 h9; rw [List.nil_append, Nat.zero_add] at h6; have hb6 := grown_drop h7; have ho6 := hid h6; have hKt := hKB.below hb6; have ⟨_, t0, t1, t2, t3, tf⟩ := hKt; have tf2 := tf 2; clear h6 h7 h8 h9; obtain ⟨w5, hw5⟩ : ∃ w5, w6.setCell ⟨B, 2, none⟩ (.slice (some ⟨g, 0, none⟩) n c') = w5 := ⟨_, rfl⟩; have hF5 : FieldJ (⟨0#64, ⟨#[]⟩, ys, []⟩ : Node (St k)) wr w5 B (.int .u64 0) (.string ⟨#[]⟩) (.slice (some ⟨g, 0, none⟩) n c') (.slice none 0 0) := fieldJ_nums (k := k) hlen hn12 ho6.out hBk hwrk hb6 hBi hKt hw5; have hFe : (⟨0#64, ⟨#[]⟩, ys, []⟩ : Node (St k)) = F i := hFi'.out.symm; have htv5 := hI.tv.below hF5.bl; have ⟨_, v0, v1, v2, v3, vf⟩ := htv5; have ⟨_, q0, q1, q2, q3, _⟩ := hF5.tb; clear k0 k1 k2 k3 kf kf0 kf1 kf2) | (at_builtin; have hba5 := below_alloc w5 (.cells #[.int .u64 0, (.string ⟨#[]⟩), .slice (some ⟨g, 0, none⟩) n c', (.slice none 0 0)] 36); have hown5 := own_beneath hI.own (via hF5.bl hba5); have hle5 : w2.heap.size ≤ (w5.alloc (.cells #[.int .u64 0, (.string ⟨#[]⟩), .slice (some ⟨g, 0, none⟩) n c', (.slice none 0 0)] 36)).heap.size := Nat.le_trans hI.sz (via hF5.bl hba5).size; have htv6 := htv5.below hba5; have hvne : (Value.slice ao i co).ownBlock ≠ some V := (fun e => by have := (own_blk hI.own e).2; have := hI.vr; omega); go_must (refine wpList_append_own_at _ rfl (.tmp 121) (.tmp 123) 34 rfl w2.heap.size 36 iT _ 4 72 Tryz.underlying34 hiT hzT hsT hbT rfl (by omega) _ i _ rfl hown5 ⟨w5.heap.size, 0, none⟩ 1 1 [.int .u64 0, (.string ⟨#[]⟩), .slice (some ⟨g, 0, none⟩) n c', (.slice none 0 0)] rfl rfl (news_at _ _ rfl #[.int .u64 0, (.string ⟨#[]⟩), .slice (some ⟨g, 0, none⟩) n c', (.slice none 0 0)] 36) (by simp [Value.oneCell', U]) (by unfold maxLen; omega) (by omega) hle5 ?_); intro v7 w7 ho7 hg7 _ hat7; have ⟨_, _, _, _, y3, yf⟩ := htv6.grown hg7 hvne; have yf3 := yf 3; obtain ⟨a7, c7, rfl⟩ := own_shape ho7; have hrel2 := hid (show OutD F w w2 w.heap.size V N (.int .i64 (i + 1 : Nat)) _ from ⟨i + 1, _, _, by omega, rfl, hI.next hF5 hFe hba5 ho7 hg7 hat7⟩)))
          go_roundw
          case rel => exact hrel2.out
          case measure => simp [intOf] <;> omega
      · by_cases hx0 : x = 0#64
        · skip
          have ⟨_, k0, k1, k2, k3, kf⟩ := hKB
          have kf0 := kf 0
          have kf1 := kf 1
          have kf2 := kf 2
          subst hx0
          obtain ⟨w5, hw5⟩ : ∃ w5, w5 = wk := ⟨_, rfl⟩
          have hFe : (⟨0#64, ⟨#[]⟩, [], []⟩ : Node (St k)) = F i := by rw [HFi.out, if_neg (by decide), if_pos rfl]
          have hF5 : FieldJ (⟨0#64, ⟨#[]⟩, [], []⟩ : Node (St k)) wr w5 B (.int .u64 0) (.string ⟨#[]⟩) (.slice none 0 0) (.slice none 0 0) :=
            hw5 ▸ ⟨hwrk, hKB, fun W hW => RdN.mk' (t := ⟨0#64, ⟨#[]⟩, [], []⟩) ⟨by show (⟨#[]⟩ : ByteArray).size ≤ 1000; decide, by simp, by simp⟩ (Row.nil W 1) (Kids.nil _ W)⟩
          subst hw5
          clear hO
          have htv5 := hI.tv.below hF5.bl
          have ⟨_, v0, v1, v2, v3, vf⟩ := htv5
          have ⟨_, q0, q1, q2, q3, _⟩ := hF5.tb
          have hba5 := below_alloc w5 (.cells #[.int .u64 0, (.string ⟨#[]⟩), (.slice none 0 0), (.slice none 0 0)] 36)
          have hown5 := own_beneath hI.own (via hF5.bl hba5)
          have hle5 : w2.heap.size ≤ (w5.alloc (.cells #[.int .u64 0, (.string ⟨#[]⟩), (.slice none 0 0), (.slice none 0 0)] 36)).heap.size := Nat.le_trans hI.sz (via hF5.bl hba5).size
          have htv6 := htv5.below hba5
          have hvne : (Value.slice ao i co).ownBlock ≠ some V := (fun e => by have := (own_blk hI.own e).2; have := hI.vr; omega)
          go_wp2_with (at_builtin; go_must (refine wpList_append_own_at _ rfl (.tmp 121) (.tmp 123) 34 rfl w2.heap.size 36 iT _ 4 72 Tryz.underlying34 hiT hzT hsT hbT rfl (by omega) _ i _ rfl hown5 ⟨w5.heap.size, 0, none⟩ 1 1 [.int .u64 0, (.string ⟨#[]⟩), (.slice none 0 0), (.slice none 0 0)] rfl rfl (news_at _ _ rfl #[.int .u64 0, (.string ⟨#[]⟩), (.slice none 0 0), (.slice none 0 0)] 36) (by simp [Value.oneCell', U]) (by unfold maxLen; omega) (by omega) hle5 ?_); intro v7 w7 ho7 hg7 _ hat7; have ⟨_, _, _, _, y3, yf⟩ := htv6.grown hg7 hvne; have yf3 := yf 3; obtain ⟨a7, c7, rfl⟩ := own_shape ho7; have hrel2 := hid (show OutD F w w2 w.heap.size V N (.int .i64 (i + 1 : Nat)) _ from ⟨i + 1, _, _, by omega, rfl, hI.next hF5 hFe hba5 ho7 hg7 hat7⟩))
          go_roundw
          case rel => exact hrel2.out
          case measure => simp [intOf] <;> omega
        · have nx0 : (x == 0#64) = false := by rw [beq_eq_false_iff_ne]; exact hx0
          have nx1 : (x != 0#64) = true := bne_iff_ne.2 hx0
          have ⟨_, k0, k1, k2, k3, kf⟩ := hKB
          have kf0 := kf 0
          have kf1 := kf 1
          have kf2 := kf 2
          have hn0 : 0 < n := by
            rcases hO with hO | hO | ⟨_, _, h1, h2, h3, h4⟩
            · exact absurd hO (by decide)
            · exact absurd hO hx0
            · exact h2
          obtain ⟨k0', hk0', hn12, hto2, hsub⟩ : ∃ k', k = k' + 1 ∧ n ≤ 12 ∧ to + n * (typeL s (tn : Int)).length ≤ ws.length ∧ (∀ j, j < n → VisOk s ws k' (tn : Int) (to + j * (typeL s (tn : Int)).length)) := by
            rcases hO with hO | hO | ⟨_, _, h1, h2, h3, h4⟩
            · exact absurd hO (by decide)
            · exact absurd hO hx0
            · rcases h4 with h4 | h4 | ⟨_, _, k', e, h5, h6⟩
              · exact absurd h4.1 (by decide)
              · exact absurd h4.1 (by decide)
              · exact ⟨k', e, by unfold mostN at h3; simp at h3; omega, h5, h6⟩
          subst hk0'
          have hFi := HFi.out
          rw [if_neg (by decide), if_neg hx0, if_neg (by decide), if_neg (by decide), decR_succ] at hFi
          obtain ⟨G, hG⟩ : ∃ G : Nat → St (k0' + 1), G = fun (j : Nat) => decS s ws k0' (tn : Int) (to + j * (typeL s (tn : Int)).length) := ⟨_, rfl⟩
          rw [← hG] at hFi
          obtain ⟨lz0, hlz⟩ := get_lt (l := s) (i := tn) (by rw [← Hns.out]; omega)
          obtain ⟨sb2, so2, lz, cz, hsa2, -, hcz, -, hzm, -, -⟩ := (Hsch.out w (Below.refl _ _)).at_ hlz
          simp only [Option.some.injEq, Addr.mk.injEq, and_true] at hsa2
          obtain ⟨rfl, rfl⟩ := hsa2
          obtain ⟨z, hz⟩ : ∃ z, z = lz0.length := ⟨_, rfl⟩
          have hzt : (typeL s (tn : Int)).length = z := by rw [typeL_at hlz, hz]
          rw [← hz] at hcz
          have hz6 : z ≤ 6 := by rw [← hzt]; exact typeL_six hr tn
          rw [hzt] at hto2 hsub
          have Hcall := hid fun (j : Nat) (hj : j < n) (W : World) (hW : Below w.heap.size w W) => show Calls Tryz.prog 45 #[.slice (some ⟨sb, so, none⟩) ns scap, .slice (some ⟨bw, offw, none⟩) L cap, .int .i64 tn, .int .i64 ((to + j * z : Nat) : Int)] W (fun e w' => ∃ cs, e = .returned (.agg cs.toArray) ∧ Below W.heap.size W w' ∧ KW (fun b => b < W.heap.size) w' (fun W' => RdS (k0' + 1) W' cs (G j))) from by
            rw [hG, hzt]
            have hR' := Hrow.out W hW
            rw [HL.out] at hR' ⊢
            exact Hih.out k0' rfl tn (by rw [← Hns.out]; omega) (to + j * z) W (Hsch.out W hW) hR' (hsub j hj)
          have hto200 : to ≤ 200 := by
            have := Nat.le_trans (Nat.le_add_right to (n * z)) hto2; have := HL.out; omega
          have hFi' := hid hFi
          obtain ⟨wi, hwi⟩ : ∃ wi, wi = wr := ⟨_, rfl⟩
          subst hwi
          have hfBk : wi.heap.size < wk.heap.size := by have := hltf; have := hwfk.size; omega
          have hsbk : sb < wk.heap.size := Nat.lt_of_lt_of_le hsb hbwk.size
          have hrel0 := hid (show InD G wi wk B n (.int .i64 0) wk from ⟨0, [], .slice none 0 0, Nat.zero_le _, rfl, ⟨hwrk, Nat.le_refl _, fun _ _ _ => rfl, hKB, own_nil _ _ _ _, KK.nil _ _ _, hBi, hBk⟩⟩)
          have hn0' : (0 : Int) < (n : Int) := by omega
          have htns : (tn : Int) < (ns : Int) := by omega
          clear hO hG hz hsub hFi hto2 HFi
          go_wp2_with fail
          clear k0 k1 k2 k3 kf kf0 kf1 kf2
          go_loopw [18] (fun iv wr => InD G wi wk B n iv wr) (fun iv _ => n - (intOf iv).toNat)
          case atStart => exact hrel0.out
          case round =>
            clear hrel0
            obtain ⟨j, xs2, kv, hj, rfl, hin⟩ := hrel
            obtain ⟨ak, ck, rfl⟩ := own_shape hin.own
            have ⟨_, k0, k1, k2, k3, kf⟩ := hin.tb
            have gf : wr.cell? ⟨wi.heap.size, 1, none⟩ = some (.int .i64 tn) := (World.cell?_of_block (a := ⟨wi.heap.size, 1, none⟩) (hin.bk wi.heap.size hfBk (by omega))).trans ((hwfk.cell (p := ⟨wi.heap.size, 1, none⟩) hltf).trans g1)
            by_cases hjn : j < n
            · have hjn2 : (j : Int) < (n : Int) := by omega
              have hbwr := hI.bl.trans (hin.bl.mono hI.bl.size)
              have gz : wr.cell? ⟨sb, so + tn, none⟩ = some (.slice lz z cz) := (hbwr.cell (p := ⟨sb, so + tn, none⟩) hsb).trans hcz
              have hcall := hid fun W (hW : Below wr.heap.size wr W) => Hcall.out j hjn W (hbwr.trans (hW.mono hbwr.size))
              have hjz : j * z ≤ 72 := Nat.le_trans (Nat.mul_le_mul (Nat.le_trans (Nat.le_of_lt hjn) hn12) hz6) (by omega)
              obtain ⟨jz, hjze⟩ : ∃ jz, jz = j * z := ⟨_, rfl⟩
              rw [← hjze] at hjz
              have hmul : IntKind.i64.wrap ((j : Int) * (z : Int)) = (jz : Int) := by rw [hjze, Int.natCast_mul]; exact IntWalk.i64_in _ (by rw [← Int.natCast_mul, ← hjze]; omega)
              obtain ⟨pj, hpj⟩ : ∃ pj, pj = to + jz := ⟨_, rfl⟩
              have hadd : IntKind.i64.wrap ((to : Int) + (jz : Int)) = (pj : Int) := by rw [hpj, Int.natCast_add]; exact IntWalk.i64_in _ (by omega)
              rw [← hjze, ← hpj] at hcall
              clear hjze hpj
              go_wp2_with fail
              refine wp_region_kept 20 (fun W => W.cell? ⟨B, 3, none⟩ = some (.slice ak j ck) ∧ W.cell? ⟨wi.heap.size, 1, none⟩ = some (.int .i64 tn) ∧ W.cell? ⟨sb, so + tn, none⟩ = some (.slice lz z cz)) (by kernel_rfl) ?_ (fun hHeld => ?_)
              · exact ⟨k3, gf, gz⟩
              refine wpAnyK_take (i := 0) (oi := { dst := some 100, op := Op.fieldAddr 36 (Operand.tmp 15) 3, type := 0, pos := "ref.go:30", after := #[], guard := none }) (v := ?vg0) rfl (by kernel_rfl) (by kernel_rfl) (by kernel_rfl) (by kernel_rfl) (fun _ _ _ h => h) (Or.inl ⟨by rfl, ?hyg0⟩) (by assumption) ?restg0
              case hyg0 => first | (intro w hSw; (try dsimp only at hSw); go_simp; done) | (intro w hSw; (try dsimp only at hSw); go_simp; with_reducible rfl)
              try simp only [Act.put, List.setIfInBounds_toArray, List.set_cons_zero, List.set_cons_succ]
              refine wpAnyK_take (i := 1) (oi := { dst := some 101, op := Op.load 34 (Operand.tmp 100), type := 34, pos := "ref.go:30", after := #[{ on := 0, ground := Ground.data }], guard := none }) (v := ?vg1) rfl (by kernel_rfl) (by kernel_rfl) (by kernel_rfl) (by kernel_rfl) (fun _ _ _ h => h) (Or.inl ⟨by rfl, ?hyg1⟩) (by assumption) ?restg1
              case hyg1 => first | (intro w hSw; (try dsimp only at hSw); go_simp; done) | (intro w hSw; (try dsimp only at hSw); go_simp; with_reducible rfl)
              try simp only [Act.put, List.setIfInBounds_toArray, List.set_cons_zero, List.set_cons_succ]
              refine wpAnyK_take (i := 2) (oi := { dst := some 102, op := Op.move (Operand.tmp 0), type := 33, pos := "ref.go:30", after := #[], guard := none }) (v := ?vg2) rfl (by kernel_rfl) (by kernel_rfl) (by kernel_rfl) (by kernel_rfl) (fun _ _ _ h => h) (Or.inl ⟨by rfl, ?hyg2⟩) (by assumption) ?restg2
              case hyg2 => first | (intro w hSw; (try dsimp only at hSw); go_simp; done) | (intro w hSw; (try dsimp only at hSw); go_simp; with_reducible rfl)
              try simp only [Act.put, List.setIfInBounds_toArray, List.set_cons_zero, List.set_cons_succ]
              refine wpAnyK_take (i := 3) (oi := { dst := some 103, op := Op.move (Operand.tmp 1), type := 22, pos := "ref.go:30", after := #[], guard := none }) (v := ?vg3) rfl (by kernel_rfl) (by kernel_rfl) (by kernel_rfl) (by kernel_rfl) (fun _ _ _ h => h) (Or.inl ⟨by rfl, ?hyg3⟩) (by assumption) ?restg3
              case hyg3 => first | (intro w hSw; (try dsimp only at hSw); go_simp; done) | (intro w hSw; (try dsimp only at hSw); go_simp; with_reducible rfl)
              try simp only [Act.put, List.setIfInBounds_toArray, List.set_cons_zero, List.set_cons_succ]
              refine wpAnyK_take (i := 4) (oi := { dst := some 104, op := Op.fieldAddr 44 (Operand.tmp 11) 1, type := 0, pos := "ref.go:30", after := #[], guard := none }) (v := ?vg4) rfl (by kernel_rfl) (by kernel_rfl) (by kernel_rfl) (by kernel_rfl) (fun _ _ _ h => h) (Or.inl ⟨by rfl, ?hyg4⟩) (by assumption) ?restg4
              case hyg4 => first | (intro w hSw; (try dsimp only at hSw); go_simp; done) | (intro w hSw; (try dsimp only at hSw); go_simp; with_reducible rfl)
              try simp only [Act.put, List.setIfInBounds_toArray, List.set_cons_zero, List.set_cons_succ]
              refine wpAnyK_take (i := 5) (oi := { dst := some 105, op := Op.load 3 (Operand.tmp 104), type := 3, pos := "ref.go:30", after := #[{ on := 4, ground := Ground.data }], guard := none }) (v := ?vg5) rfl (by kernel_rfl) (by kernel_rfl) (by kernel_rfl) (by kernel_rfl) (fun _ _ _ h => h) (Or.inl ⟨by rfl, ?hyg5⟩) (by assumption) ?restg5
              case hyg5 => first | (intro w hSw; (try dsimp only at hSw); go_simp; done) | (intro w hSw; (try dsimp only at hSw); go_simp; with_reducible rfl)
              try simp only [Act.put, List.setIfInBounds_toArray, List.set_cons_zero, List.set_cons_succ]
              refine wpAnyK_take (i := 6) (oi := { dst := some 106, op := Op.move (Operand.tmp 14), type := 3, pos := "ref.go:30", after := #[], guard := none }) (v := ?vg6) rfl (by kernel_rfl) (by kernel_rfl) (by kernel_rfl) (by kernel_rfl) (fun _ _ _ h => h) (Or.inl ⟨by rfl, ?hyg6⟩) (by assumption) ?restg6
              case hyg6 => first | (intro w hSw; (try dsimp only at hSw); go_simp; done) | (intro w hSw; (try dsimp only at hSw); go_simp; with_reducible rfl)
              try simp only [Act.put, List.setIfInBounds_toArray, List.set_cons_zero, List.set_cons_succ]
              refine wpAnyK_take (i := 7) (oi := { dst := some 107, op := Op.move (Operand.tmp 18), type := 3, pos := "ref.go:30", after := #[], guard := none }) (v := ?vg7) rfl (by kernel_rfl) (by kernel_rfl) (by kernel_rfl) (by kernel_rfl) (fun _ _ _ h => h) (Or.inl ⟨by rfl, ?hyg7⟩) (by assumption) ?restg7
              case hyg7 => first | (intro w hSw; (try dsimp only at hSw); go_simp; done) | (intro w hSw; (try dsimp only at hSw); go_simp; with_reducible rfl)
              try simp only [Act.put, List.setIfInBounds_toArray, List.set_cons_zero, List.set_cons_succ]
              refine wpAnyK_take (i := 8) (oi := { dst := some 108, op := Op.move (Operand.tmp 0), type := 33, pos := "ref.go:30", after := #[], guard := none }) (v := ?vg8) rfl (by kernel_rfl) (by kernel_rfl) (by kernel_rfl) (by kernel_rfl) (fun _ _ _ h => h) (Or.inl ⟨by rfl, ?hyg8⟩) (by assumption) ?restg8
              case hyg8 => first | (intro w hSw; (try dsimp only at hSw); go_simp; done) | (intro w hSw; (try dsimp only at hSw); go_simp; with_reducible rfl)
              try simp only [Act.put, List.setIfInBounds_toArray, List.set_cons_zero, List.set_cons_succ]
              refine wpAnyK_take (i := 9) (oi := { dst := some 109, op := Op.fieldAddr 44 (Operand.tmp 11) 1, type := 0, pos := "ref.go:30", after := #[], guard := none }) (v := ?vg9) rfl (by kernel_rfl) (by kernel_rfl) (by kernel_rfl) (by kernel_rfl) (fun _ _ _ h => h) (Or.inl ⟨by rfl, ?hyg9⟩) (by assumption) ?restg9
              case hyg9 => first | (intro w hSw; (try dsimp only at hSw); go_simp; done) | (intro w hSw; (try dsimp only at hSw); go_simp; with_reducible rfl)
              try simp only [Act.put, List.setIfInBounds_toArray, List.set_cons_zero, List.set_cons_succ]
              refine wpAnyK_take (i := 10) (oi := { dst := some 110, op := Op.load 3 (Operand.tmp 109), type := 3, pos := "ref.go:30", after := #[{ on := 9, ground := Ground.data }], guard := none }) (v := ?vg10) rfl (by kernel_rfl) (by kernel_rfl) (by kernel_rfl) (by kernel_rfl) (fun _ _ _ h => h) (Or.inl ⟨by rfl, ?hyg10⟩) (by assumption) ?restg10
              case hyg10 => first | (intro w hSw; (try dsimp only at hSw); go_simp; done) | (intro w hSw; (try dsimp only at hSw); go_simp; with_reducible rfl)
              try simp only [Act.put, List.setIfInBounds_toArray, List.set_cons_zero, List.set_cons_succ]
              refine wpAnyK_take (i := 11) (oi := { dst := some 111, op := Op.indexAddr 33 (Operand.tmp 108) (Operand.tmp 110), type := 0, pos := "ref.go:30", after := #[{ on := 8, ground := Ground.data }, { on := 10, ground := Ground.data }], guard := none }) (v := ?vg11) rfl (by kernel_rfl) (by kernel_rfl) (by kernel_rfl) (by kernel_rfl) (fun _ _ _ h => h) (Or.inl ⟨by rfl, ?hyg11⟩) (by assumption) ?restg11
              case hyg11 => first | (intro w hSw; (try dsimp only at hSw); go_simp; done) | (intro w hSw; (try dsimp only at hSw); go_simp; with_reducible rfl)
              try simp only [Act.put, List.setIfInBounds_toArray, List.set_cons_zero, List.set_cons_succ]
              refine wpAnyK_take (i := 12) (oi := { dst := some 112, op := Op.load 45 (Operand.tmp 111), type := 45, pos := "ref.go:30", after := #[{ on := 11, ground := Ground.data }], guard := none }) (v := ?vg12) rfl (by kernel_rfl) (by kernel_rfl) (by kernel_rfl) (by kernel_rfl) (fun _ _ _ h => h) (Or.inl ⟨by rfl, ?hyg12⟩) (by assumption) ?restg12
              case hyg12 => first | (intro w hSw; (try dsimp only at hSw); go_simp; done) | (intro w hSw; (try dsimp only at hSw); go_simp; with_reducible rfl)
              try simp only [Act.put, List.setIfInBounds_toArray, List.set_cons_zero, List.set_cons_succ]
              refine wpAnyK_take (i := 13) (oi := { dst := some 113, op := Op.call { callee := Callee.builtin Builtin.len, args := #[Operand.tmp 112], argTypes := #[45] }, type := 3, pos := "ref.go:30", after := #[{ on := 12, ground := Ground.data }], guard := none }) (v := ?vg13) rfl (by kernel_rfl) (by kernel_rfl) (by kernel_rfl) (by kernel_rfl) (fun _ _ _ h => h) (Or.inl ⟨by rfl, ?hyg13⟩) (by assumption) ?restg13
              case hyg13 => first | (intro w hSw; (try dsimp only at hSw); go_simp; done) | (intro w hSw; (try dsimp only at hSw); go_simp; with_reducible rfl)
              try simp only [Act.put, List.setIfInBounds_toArray, List.set_cons_zero, List.set_cons_succ]
              refine wpAnyK_take (i := 14) (oi := { dst := some 114, op := Op.binOp BinOp.mul 3 (Operand.tmp 107) (Operand.tmp 113) 3, type := 3, pos := "ref.go:30", after := #[{ on := 7, ground := Ground.data }, { on := 13, ground := Ground.data }], guard := none }) (v := ?vg14) rfl (by kernel_rfl) (by kernel_rfl) (by kernel_rfl) (by kernel_rfl) (fun _ _ _ h => h) (Or.inl ⟨by rfl, ?hyg14⟩) (by assumption) ?restg14
              case hyg14 => first | (intro w hSw; (try dsimp only at hSw); go_simp; done) | (intro w hSw; (try dsimp only at hSw); go_simp; with_reducible rfl)
              try simp only [Act.put, List.setIfInBounds_toArray, List.set_cons_zero, List.set_cons_succ]
              refine wpAnyK_take (i := 15) (oi := { dst := some 115, op := Op.binOp BinOp.add 3 (Operand.tmp 106) (Operand.tmp 114) 3, type := 3, pos := "ref.go:30", after := #[{ on := 6, ground := Ground.data }, { on := 14, ground := Ground.data }], guard := none }) (v := ?vg15) rfl (by kernel_rfl) (by kernel_rfl) (by kernel_rfl) (by kernel_rfl) (fun _ _ _ h => h) (Or.inl ⟨by rfl, ?hyg15⟩) (by assumption) ?restg15
              case hyg15 => first | (intro w hSw; (try dsimp only at hSw); go_simp; done) | (intro w hSw; (try dsimp only at hSw); go_simp; with_reducible rfl)
              try simp only [Act.put, List.setIfInBounds_toArray, List.set_cons_zero, List.set_cons_succ]
              refine wpAnyK_ready (rs := [16]) (by kernel_rfl) (by simp) ?_
              refine AllReadyK.cons (o := { dst := some 116, op := Op.call { callee := Callee.value (Operand.func 45), args := #[Operand.tmp 102, Operand.tmp 103, Operand.tmp 105, Operand.tmp 115], argTypes := #[33, 22, 3, 3] }, type := 36, pos := "ref.go:30", after := #[{ on := 2, ground := Ground.data }, { on := 3, ground := Ground.data }, { on := 5, ground := Ground.data }, { on := 15, ground := Ground.data }], guard := none }) rfl (fun K hK => ?_) AllReadyK.nil
              go_simp
              ((refine (hcall.out _ (below_drewN _ wr 1)).mono ?_); rintro rk wc ⟨cs, rfl, hbc, hrdc⟩)
              have hbc2 := (below_drewN wr.heap.size wr 1).trans hbc
              obtain ⟨x0, x1, x2, x3, rfl, hx14⟩ := cells4 hrdc.now
              have hTc := hin.tb.below hbc2
              have ⟨_, _, _, _, t3, tf⟩ := hTc
              refine hK.out _ _ (.inr ?_) (fun hHeld0 => ?_)
              · exact ⟨t3, (hbc2.cell (p := ⟨wi.heap.size, 1, none⟩) (Nat.lt_of_lt_of_le hfBk hin.sz)).trans gf, (hbc2.cell (p := ⟨sb, so + tn, none⟩) (Nat.lt_of_lt_of_le hsbk hin.sz)).trans gz⟩
              have hHeld := hHeld0.resolve_left (by decide)
              clear hHeld0 hK K
              try simp only [Act.put, List.setIfInBounds_toArray, List.set_cons_zero, List.set_cons_succ]
              refine wpAnyK_ready (rs := [17]) (by kernel_rfl) (by simp) ?_
              refine AllReadyK.cons (o := { dst := some 117, op := Op.buildSlice 34 1 #[(0, Operand.tmp 116)], type := 34, pos := "ref.go:30", after := #[{ on := 16, ground := Ground.data }], guard := none }) rfl (fun K hK => ?_) AllReadyK.nil
              go_simp
              have hba := below_alloc wc (.cells #[x0, x1, x2, x3] 36)
              have hTa := hTc.below hba
              have ⟨_, _, _, _, ta3, _⟩ := hTa
              have hbca := via hbc2 hba
              refine hK.out _ _ (.inr ?_) (fun hHeld0 => ?_)
              · exact ⟨ta3, (hbca.cell (p := ⟨wi.heap.size, 1, none⟩) (Nat.lt_of_lt_of_le hfBk hin.sz)).trans gf, (hbca.cell (p := ⟨sb, so + tn, none⟩) (Nat.lt_of_lt_of_le hsbk hin.sz)).trans gz⟩
              have hHeld := hHeld0.resolve_left (by decide)
              clear hHeld0 hK K
              try simp only [Act.put, List.setIfInBounds_toArray, List.set_cons_zero, List.set_cons_succ]
              refine wpAnyK_ready (rs := [18]) (by kernel_rfl) (by simp) ?_
              refine AllReadyK.cons (o := { dst := some 118, op := Op.call { callee := Callee.builtin Builtin.append, args := #[Operand.tmp 101, Operand.tmp 117], argTypes := #[34, 34] }, type := 34, pos := "ref.go:30", after := #[{ on := 1, ground := Ground.data }, { on := 17, ground := Ground.data }, { on := 16, ground := Ground.chain }], guard := none }) rfl (fun K hK => ?_) AllReadyK.nil
              rw [if_pos (by rfl)]
              have hown6 := own_beneath hin.own hbca
              have hsz6 : wk.heap.size ≤ (wc.alloc (.cells #[x0, x1, x2, x3] 36)).heap.size := Nat.le_trans hin.sz hbca.size
              refine wp_append_own_at _ (.tmp 101) (.tmp 117) 34 rfl wk.heap.size 36 iT _ 4 72 Tryz.underlying34 hiT hzT hsT hbT rfl (by omega) _ j _ rfl hown6 ⟨wc.heap.size, 0, none⟩ 1 1 [x0, x1, x2, x3] rfl rfl (news_at _ _ rfl #[x0, x1, x2, x3] 36) hx14 (by unfold maxLen; omega) (by omega) hsz6 ?_
              intro v7 w7 ho7 hg7 _ hat7
              obtain ⟨a7, c7, rfl⟩ := own_shape ho7
              have hne7 : ∀ b, b < wk.heap.size → (Value.slice ak j ck).ownBlock ≠ some b := fun b hb e => by have := (own_blk hin.own e).2; omega
              have hT7 := hTa.grown hg7 (hne7 B hBk)
              have ⟨_, _, _, _, u3, uf⟩ := hT7
              have uf3 := uf 3
              have hb7 : ∀ b, b < wr.heap.size → b < wk.heap.size → w7.heap[b]? = wr.heap[b]? := fun b h1 h2 => (hg7.block b (Nat.lt_of_lt_of_le h1 hbca.size) (fun e => hne7 b h2 e.symm)).trans (hbca.block b h1)
              refine hK.out _ _ (.inr ?_) (fun hHeld0 => ?_)
              · exact ⟨u3, (World.cell?_of_block (a := ⟨wi.heap.size, 1, none⟩) (hb7 wi.heap.size (Nat.lt_of_lt_of_le hfBk hin.sz) hfBk)).trans gf, (World.cell?_of_block (a := ⟨sb, so + tn, none⟩) (hb7 sb (Nat.lt_of_lt_of_le hsbk hin.sz) hsbk)).trans gz⟩
              have hHeld := hHeld0.resolve_left (by decide)
              clear hHeld0 hK K
              try simp only [Act.put, List.setIfInBounds_toArray, List.set_cons_zero, List.set_cons_succ]
              refine wpAnyK_take (i := 19) (oi := { dst := some 119, op := Op.fieldAddr 36 (Operand.tmp 15) 3, type := 0, pos := "ref.go:30", after := #[{ on := 0, ground := Ground.phase }, { on := 1, ground := Ground.phase }, { on := 2, ground := Ground.phase }, { on := 3, ground := Ground.phase }, { on := 4, ground := Ground.phase }, { on := 5, ground := Ground.phase }, { on := 6, ground := Ground.phase }, { on := 7, ground := Ground.phase }, { on := 8, ground := Ground.phase }, { on := 9, ground := Ground.phase }, { on := 10, ground := Ground.phase }, { on := 11, ground := Ground.phase }, { on := 12, ground := Ground.phase }, { on := 13, ground := Ground.phase }, { on := 14, ground := Ground.phase }, { on := 15, ground := Ground.phase }, { on := 16, ground := Ground.phase }, { on := 17, ground := Ground.phase }, { on := 18, ground := Ground.phase }], guard := none }) (v := ?vg19) rfl (by kernel_rfl) (by kernel_rfl) (by kernel_rfl) (by kernel_rfl) (fun _ _ _ h => h) (Or.inl ⟨by rfl, ?hyg19⟩) (by assumption) ?restg19
              case hyg19 => first | (intro w hSw; (try dsimp only at hSw); go_simp; done) | (intro w hSw; (try dsimp only at hSw); go_simp; with_reducible rfl)
              try simp only [Act.put, List.setIfInBounds_toArray, List.set_cons_zero, List.set_cons_succ]
              refine wpAnyK_ready (rs := [20]) (by kernel_rfl) (by simp) ?_
              refine AllReadyK.cons (o := { dst := none, op := Op.store 34 (Operand.tmp 119) (Operand.tmp 118), type := 0, pos := "ref.go:30", after := #[{ on := 19, ground := Ground.data }, { on := 18, ground := Ground.data }, { on := 18, ground := Ground.chain }, { on := 0, ground := Ground.phase }, { on := 1, ground := Ground.phase }, { on := 2, ground := Ground.phase }, { on := 3, ground := Ground.phase }, { on := 4, ground := Ground.phase }, { on := 5, ground := Ground.phase }, { on := 6, ground := Ground.phase }, { on := 7, ground := Ground.phase }, { on := 8, ground := Ground.phase }, { on := 9, ground := Ground.phase }, { on := 10, ground := Ground.phase }, { on := 11, ground := Ground.phase }, { on := 12, ground := Ground.phase }, { on := 13, ground := Ground.phase }, { on := 14, ground := Ground.phase }, { on := 15, ground := Ground.phase }, { on := 16, ground := Ground.phase }, { on := 17, ground := Ground.phase }, { on := 18, ground := Ground.phase }], guard := none }) rfl (fun K hK => ?_) AllReadyK.nil
              go_simp
              refine hK.out _ _ (.inl rfl) (fun hHeld0 => ?_)
              clear hHeld0 hK K
              try simp only [Act.put, List.setIfInBounds_toArray, List.set_cons_zero, List.set_cons_succ]
              refine wpAnyK_done (by kernel_rfl) ?_ _
              have hrel2 := hid (show InD G wi wk B n (.int .i64 (j + 1 : Nat)) _ from ⟨j + 1, _, _, by omega, rfl, hin.next hbc2 (hrdc.mono fun b hb e => e) rfl hba ho7 hg7 hat7⟩)
              go_wp2_with fail
              go_roundw
              case rel => exact hrel2.out
              case measure => simp [intOf] <;> omega
            · obtain rfl : j = n := by omega
              obtain ⟨w5, hw5⟩ : ∃ w5, w5 = wr := ⟨_, rfl⟩
              have hFe : (⟨0#64, ⟨#[]⟩, [], (List.range j).map G⟩ : Node (St (k0' + 1))) = F i := hFi'.out.symm
              have hF5 : FieldJ (⟨0#64, ⟨#[]⟩, [], (List.range j).map G⟩ : Node (St (k0' + 1))) wi w5 B (.int .u64 0) (.string ⟨#[]⟩) (.slice none 0 0) (.slice ak j ck) :=
                hw5 ▸ ⟨hin.bl, hin.tb, hin.read (by omega)⟩
              subst hw5
              clear k0 k1 k2 k3 kf hin gf
              have htv5 := hI.tv.below hF5.bl
              have ⟨_, v0, v1, v2, v3, vf⟩ := htv5
              have ⟨_, q0, q1, q2, q3, _⟩ := hF5.tb
              have hba5 := below_alloc w5 (.cells #[.int .u64 0, (.string ⟨#[]⟩), (.slice none 0 0), .slice ak j ck] 36)
              have hown5 := own_beneath hI.own (via hF5.bl hba5)
              have hle5 : w2.heap.size ≤ (w5.alloc (.cells #[.int .u64 0, (.string ⟨#[]⟩), (.slice none 0 0), .slice ak j ck] 36)).heap.size := Nat.le_trans hI.sz (via hF5.bl hba5).size
              have htv6 := htv5.below hba5
              have hvne : (Value.slice ao i co).ownBlock ≠ some V := (fun e => by have := (own_blk hI.own e).2; have := hI.vr; omega)
              go_wp2_with (at_builtin; go_must (refine wpList_append_own_at _ rfl (.tmp 121) (.tmp 123) 34 rfl w2.heap.size 36 iT _ 4 72 Tryz.underlying34 hiT hzT hsT hbT rfl (by omega) _ i _ rfl hown5 ⟨w5.heap.size, 0, none⟩ 1 1 [.int .u64 0, (.string ⟨#[]⟩), (.slice none 0 0), .slice ak j ck] rfl rfl (news_at _ _ rfl #[.int .u64 0, (.string ⟨#[]⟩), (.slice none 0 0), .slice ak j ck] 36) (by simp [Value.oneCell', U]) (by unfold maxLen; omega) (by omega) hle5 ?_); intro v7 w7 ho7 hg7 _ hat7; have ⟨_, _, _, _, y3, yf⟩ := htv6.grown hg7 hvne; have yf3 := yf 3; obtain ⟨a7, c7, rfl⟩ := own_shape ho7; have hrel2 := hid (show OutD F w w2 w.heap.size V N (.int .i64 (i + 1 : Nat)) _ from ⟨i + 1, _, _, by omega, rfl, hI.next hF5 hFe hba5 ho7 hg7 hat7⟩))
              go_roundw
              case rel => exact hrel2.out
              case measure => simp [intOf] <;> omega
      · by_cases hx0 : x = 0#64
        · skip
          have ⟨_, k0, k1, k2, k3, kf⟩ := hKB
          have kf0 := kf 0
          have kf1 := kf 1
          have kf2 := kf 2
          subst hx0
          obtain ⟨w5, hw5⟩ : ∃ w5, w5 = wk := ⟨_, rfl⟩
          have hFe : (⟨0#64, ⟨#[]⟩, [], []⟩ : Node (St k)) = F i := by rw [HFi.out, if_neg (by decide), if_pos rfl]
          have hF5 : FieldJ (⟨0#64, ⟨#[]⟩, [], []⟩ : Node (St k)) wr w5 B (.int .u64 0) (.string ⟨#[]⟩) (.slice none 0 0) (.slice none 0 0) :=
            hw5 ▸ ⟨hwrk, hKB, fun W hW => RdN.mk' (t := ⟨0#64, ⟨#[]⟩, [], []⟩) ⟨by show (⟨#[]⟩ : ByteArray).size ≤ 1000; decide, by simp, by simp⟩ (Row.nil W 1) (Kids.nil _ W)⟩
          subst hw5
          clear hO
          have htv5 := hI.tv.below hF5.bl
          have ⟨_, v0, v1, v2, v3, vf⟩ := htv5
          have ⟨_, q0, q1, q2, q3, _⟩ := hF5.tb
          have hba5 := below_alloc w5 (.cells #[.int .u64 0, (.string ⟨#[]⟩), (.slice none 0 0), (.slice none 0 0)] 36)
          have hown5 := own_beneath hI.own (via hF5.bl hba5)
          have hle5 : w2.heap.size ≤ (w5.alloc (.cells #[.int .u64 0, (.string ⟨#[]⟩), (.slice none 0 0), (.slice none 0 0)] 36)).heap.size := Nat.le_trans hI.sz (via hF5.bl hba5).size
          have htv6 := htv5.below hba5
          have hvne : (Value.slice ao i co).ownBlock ≠ some V := (fun e => by have := (own_blk hI.own e).2; have := hI.vr; omega)
          go_wp2_with (at_builtin; go_must (refine wpList_append_own_at _ rfl (.tmp 121) (.tmp 123) 34 rfl w2.heap.size 36 iT _ 4 72 Tryz.underlying34 hiT hzT hsT hbT rfl (by omega) _ i _ rfl hown5 ⟨w5.heap.size, 0, none⟩ 1 1 [.int .u64 0, (.string ⟨#[]⟩), (.slice none 0 0), (.slice none 0 0)] rfl rfl (news_at _ _ rfl #[.int .u64 0, (.string ⟨#[]⟩), (.slice none 0 0), (.slice none 0 0)] 36) (by simp [Value.oneCell', U]) (by unfold maxLen; omega) (by omega) hle5 ?_); intro v7 w7 ho7 hg7 _ hat7; have ⟨_, _, _, _, y3, yf⟩ := htv6.grown hg7 hvne; have yf3 := yf 3; obtain ⟨a7, c7, rfl⟩ := own_shape ho7; have hrel2 := hid (show OutD F w w2 w.heap.size V N (.int .i64 (i + 1 : Nat)) _ from ⟨i + 1, _, _, by omega, rfl, hI.next hF5 hFe hba5 ho7 hg7 hat7⟩))
          go_roundw
          case rel => exact hrel2.out
          case measure => simp [intOf] <;> omega
        · have nx0 : (x == 0#64) = false := by rw [beq_eq_false_iff_ne]; exact hx0
          have nx1 : (x != 0#64) = true := bne_iff_ne.2 hx0
          have ⟨_, k0, k1, k2, k3, kf⟩ := hKB
          have kf0 := kf 0
          have kf1 := kf 1
          have kf2 := kf 2
          have hn0 : 0 < n := by
            rcases hO with hO | hO | ⟨_, _, h1, h2, h3, h4⟩
            · exact absurd hO (by decide)
            · exact absurd hO hx0
            · exact h2
          obtain ⟨k0', hk0', hn12, hto2, hsub⟩ : ∃ k', k = k' + 1 ∧ n ≤ 12 ∧ to + n * (typeL s (tn : Int)).length ≤ ws.length ∧ (∀ j, j < n → VisOk s ws k' (tn : Int) (to + j * (typeL s (tn : Int)).length)) := by
            rcases hO with hO | hO | ⟨_, _, h1, h2, h3, h4⟩
            · exact absurd hO (by decide)
            · exact absurd hO hx0
            · rcases h4 with h4 | h4 | ⟨_, _, k', e, h5, h6⟩
              · exact absurd h4.1 (by decide)
              · exact absurd h4.1 (by decide)
              · exact ⟨k', e, by unfold mostN at h3; simp at h3; omega, h5, h6⟩
          subst hk0'
          have hFi := HFi.out
          rw [if_neg (by decide), if_neg hx0, if_neg (by decide), if_neg (by decide), decR_succ] at hFi
          obtain ⟨G, hG⟩ : ∃ G : Nat → St (k0' + 1), G = fun (j : Nat) => decS s ws k0' (tn : Int) (to + j * (typeL s (tn : Int)).length) := ⟨_, rfl⟩
          rw [← hG] at hFi
          obtain ⟨lz0, hlz⟩ := get_lt (l := s) (i := tn) (by rw [← Hns.out]; omega)
          obtain ⟨sb2, so2, lz, cz, hsa2, -, hcz, -, hzm, -, -⟩ := (Hsch.out w (Below.refl _ _)).at_ hlz
          simp only [Option.some.injEq, Addr.mk.injEq, and_true] at hsa2
          obtain ⟨rfl, rfl⟩ := hsa2
          obtain ⟨z, hz⟩ : ∃ z, z = lz0.length := ⟨_, rfl⟩
          have hzt : (typeL s (tn : Int)).length = z := by rw [typeL_at hlz, hz]
          rw [← hz] at hcz
          have hz6 : z ≤ 6 := by rw [← hzt]; exact typeL_six hr tn
          rw [hzt] at hto2 hsub
          have Hcall := hid fun (j : Nat) (hj : j < n) (W : World) (hW : Below w.heap.size w W) => show Calls Tryz.prog 45 #[.slice (some ⟨sb, so, none⟩) ns scap, .slice (some ⟨bw, offw, none⟩) L cap, .int .i64 tn, .int .i64 ((to + j * z : Nat) : Int)] W (fun e w' => ∃ cs, e = .returned (.agg cs.toArray) ∧ Below W.heap.size W w' ∧ KW (fun b => b < W.heap.size) w' (fun W' => RdS (k0' + 1) W' cs (G j))) from by
            rw [hG, hzt]
            have hR' := Hrow.out W hW
            rw [HL.out] at hR' ⊢
            exact Hih.out k0' rfl tn (by rw [← Hns.out]; omega) (to + j * z) W (Hsch.out W hW) hR' (hsub j hj)
          have hto200 : to ≤ 200 := by
            have := Nat.le_trans (Nat.le_add_right to (n * z)) hto2; have := HL.out; omega
          have hFi' := hid hFi
          obtain ⟨wi, hwi⟩ : ∃ wi, wi = wr := ⟨_, rfl⟩
          subst hwi
          have hfBk : wi.heap.size < wk.heap.size := by have := hltf; have := hwfk.size; omega
          have hsbk : sb < wk.heap.size := Nat.lt_of_lt_of_le hsb hbwk.size
          have hrel0 := hid (show InD G wi wk B n (.int .i64 0) wk from ⟨0, [], .slice none 0 0, Nat.zero_le _, rfl, ⟨hwrk, Nat.le_refl _, fun _ _ _ => rfl, hKB, own_nil _ _ _ _, KK.nil _ _ _, hBi, hBk⟩⟩)
          have hn0' : (0 : Int) < (n : Int) := by omega
          have htns : (tn : Int) < (ns : Int) := by omega
          clear hO hG hz hsub hFi hto2 HFi
          go_wp2_with fail
          clear k0 k1 k2 k3 kf kf0 kf1 kf2
          go_loopw [18] (fun iv wr => InD G wi wk B n iv wr) (fun iv _ => n - (intOf iv).toNat)
          case atStart => exact hrel0.out
          case round =>
            clear hrel0
            obtain ⟨j, xs2, kv, hj, rfl, hin⟩ := hrel
            obtain ⟨ak, ck, rfl⟩ := own_shape hin.own
            have ⟨_, k0, k1, k2, k3, kf⟩ := hin.tb
            have gf : wr.cell? ⟨wi.heap.size, 1, none⟩ = some (.int .i64 tn) := (World.cell?_of_block (a := ⟨wi.heap.size, 1, none⟩) (hin.bk wi.heap.size hfBk (by omega))).trans ((hwfk.cell (p := ⟨wi.heap.size, 1, none⟩) hltf).trans g1)
            by_cases hjn : j < n
            · have hjn2 : (j : Int) < (n : Int) := by omega
              have hbwr := hI.bl.trans (hin.bl.mono hI.bl.size)
              have gz : wr.cell? ⟨sb, so + tn, none⟩ = some (.slice lz z cz) := (hbwr.cell (p := ⟨sb, so + tn, none⟩) hsb).trans hcz
              have hcall := hid fun W (hW : Below wr.heap.size wr W) => Hcall.out j hjn W (hbwr.trans (hW.mono hbwr.size))
              have hjz : j * z ≤ 72 := Nat.le_trans (Nat.mul_le_mul (Nat.le_trans (Nat.le_of_lt hjn) hn12) hz6) (by omega)
              obtain ⟨jz, hjze⟩ : ∃ jz, jz = j * z := ⟨_, rfl⟩
              rw [← hjze] at hjz
              have hmul : IntKind.i64.wrap ((j : Int) * (z : Int)) = (jz : Int) := by rw [hjze, Int.natCast_mul]; exact IntWalk.i64_in _ (by rw [← Int.natCast_mul, ← hjze]; omega)
              obtain ⟨pj, hpj⟩ : ∃ pj, pj = to + jz := ⟨_, rfl⟩
              have hadd : IntKind.i64.wrap ((to : Int) + (jz : Int)) = (pj : Int) := by rw [hpj, Int.natCast_add]; exact IntWalk.i64_in _ (by omega)
              rw [← hjze, ← hpj] at hcall
              clear hjze hpj
              go_wp2_with fail
              refine wp_region_kept 20 (fun W => W.cell? ⟨B, 3, none⟩ = some (.slice ak j ck) ∧ W.cell? ⟨wi.heap.size, 1, none⟩ = some (.int .i64 tn) ∧ W.cell? ⟨sb, so + tn, none⟩ = some (.slice lz z cz)) (by kernel_rfl) ?_ (fun hHeld => ?_)
              · exact ⟨k3, gf, gz⟩
              refine wpAnyK_take (i := 0) (oi := { dst := some 100, op := Op.fieldAddr 36 (Operand.tmp 15) 3, type := 0, pos := "ref.go:30", after := #[], guard := none }) (v := ?vh0) rfl (by kernel_rfl) (by kernel_rfl) (by kernel_rfl) (by kernel_rfl) (fun _ _ _ h => h) (Or.inl ⟨by rfl, ?hyh0⟩) (by assumption) ?resth0
              case hyh0 => first | (intro w hSw; (try dsimp only at hSw); go_simp; done) | (intro w hSw; (try dsimp only at hSw); go_simp; with_reducible rfl)
              try simp only [Act.put, List.setIfInBounds_toArray, List.set_cons_zero, List.set_cons_succ]
              refine wpAnyK_take (i := 1) (oi := { dst := some 101, op := Op.load 34 (Operand.tmp 100), type := 34, pos := "ref.go:30", after := #[{ on := 0, ground := Ground.data }], guard := none }) (v := ?vh1) rfl (by kernel_rfl) (by kernel_rfl) (by kernel_rfl) (by kernel_rfl) (fun _ _ _ h => h) (Or.inl ⟨by rfl, ?hyh1⟩) (by assumption) ?resth1
              case hyh1 => first | (intro w hSw; (try dsimp only at hSw); go_simp; done) | (intro w hSw; (try dsimp only at hSw); go_simp; with_reducible rfl)
              try simp only [Act.put, List.setIfInBounds_toArray, List.set_cons_zero, List.set_cons_succ]
              refine wpAnyK_take (i := 2) (oi := { dst := some 102, op := Op.move (Operand.tmp 0), type := 33, pos := "ref.go:30", after := #[], guard := none }) (v := ?vh2) rfl (by kernel_rfl) (by kernel_rfl) (by kernel_rfl) (by kernel_rfl) (fun _ _ _ h => h) (Or.inl ⟨by rfl, ?hyh2⟩) (by assumption) ?resth2
              case hyh2 => first | (intro w hSw; (try dsimp only at hSw); go_simp; done) | (intro w hSw; (try dsimp only at hSw); go_simp; with_reducible rfl)
              try simp only [Act.put, List.setIfInBounds_toArray, List.set_cons_zero, List.set_cons_succ]
              refine wpAnyK_take (i := 3) (oi := { dst := some 103, op := Op.move (Operand.tmp 1), type := 22, pos := "ref.go:30", after := #[], guard := none }) (v := ?vh3) rfl (by kernel_rfl) (by kernel_rfl) (by kernel_rfl) (by kernel_rfl) (fun _ _ _ h => h) (Or.inl ⟨by rfl, ?hyh3⟩) (by assumption) ?resth3
              case hyh3 => first | (intro w hSw; (try dsimp only at hSw); go_simp; done) | (intro w hSw; (try dsimp only at hSw); go_simp; with_reducible rfl)
              try simp only [Act.put, List.setIfInBounds_toArray, List.set_cons_zero, List.set_cons_succ]
              refine wpAnyK_take (i := 4) (oi := { dst := some 104, op := Op.fieldAddr 44 (Operand.tmp 11) 1, type := 0, pos := "ref.go:30", after := #[], guard := none }) (v := ?vh4) rfl (by kernel_rfl) (by kernel_rfl) (by kernel_rfl) (by kernel_rfl) (fun _ _ _ h => h) (Or.inl ⟨by rfl, ?hyh4⟩) (by assumption) ?resth4
              case hyh4 => first | (intro w hSw; (try dsimp only at hSw); go_simp; done) | (intro w hSw; (try dsimp only at hSw); go_simp; with_reducible rfl)
              try simp only [Act.put, List.setIfInBounds_toArray, List.set_cons_zero, List.set_cons_succ]
              refine wpAnyK_take (i := 5) (oi := { dst := some 105, op := Op.load 3 (Operand.tmp 104), type := 3, pos := "ref.go:30", after := #[{ on := 4, ground := Ground.data }], guard := none }) (v := ?vh5) rfl (by kernel_rfl) (by kernel_rfl) (by kernel_rfl) (by kernel_rfl) (fun _ _ _ h => h) (Or.inl ⟨by rfl, ?hyh5⟩) (by assumption) ?resth5
              case hyh5 => first | (intro w hSw; (try dsimp only at hSw); go_simp; done) | (intro w hSw; (try dsimp only at hSw); go_simp; with_reducible rfl)
              try simp only [Act.put, List.setIfInBounds_toArray, List.set_cons_zero, List.set_cons_succ]
              refine wpAnyK_take (i := 6) (oi := { dst := some 106, op := Op.move (Operand.tmp 14), type := 3, pos := "ref.go:30", after := #[], guard := none }) (v := ?vh6) rfl (by kernel_rfl) (by kernel_rfl) (by kernel_rfl) (by kernel_rfl) (fun _ _ _ h => h) (Or.inl ⟨by rfl, ?hyh6⟩) (by assumption) ?resth6
              case hyh6 => first | (intro w hSw; (try dsimp only at hSw); go_simp; done) | (intro w hSw; (try dsimp only at hSw); go_simp; with_reducible rfl)
              try simp only [Act.put, List.setIfInBounds_toArray, List.set_cons_zero, List.set_cons_succ]
              refine wpAnyK_take (i := 7) (oi := { dst := some 107, op := Op.move (Operand.tmp 18), type := 3, pos := "ref.go:30", after := #[], guard := none }) (v := ?vh7) rfl (by kernel_rfl) (by kernel_rfl) (by kernel_rfl) (by kernel_rfl) (fun _ _ _ h => h) (Or.inl ⟨by rfl, ?hyh7⟩) (by assumption) ?resth7
              case hyh7 => first | (intro w hSw; (try dsimp only at hSw); go_simp; done) | (intro w hSw; (try dsimp only at hSw); go_simp; with_reducible rfl)
              try simp only [Act.put, List.setIfInBounds_toArray, List.set_cons_zero, List.set_cons_succ]
              refine wpAnyK_take (i := 8) (oi := { dst := some 108, op := Op.move (Operand.tmp 0), type := 33, pos := "ref.go:30", after := #[], guard := none }) (v := ?vh8) rfl (by kernel_rfl) (by kernel_rfl) (by kernel_rfl) (by kernel_rfl) (fun _ _ _ h => h) (Or.inl ⟨by rfl, ?hyh8⟩) (by assumption) ?resth8
              case hyh8 => first | (intro w hSw; (try dsimp only at hSw); go_simp; done) | (intro w hSw; (try dsimp only at hSw); go_simp; with_reducible rfl)
              try simp only [Act.put, List.setIfInBounds_toArray, List.set_cons_zero, List.set_cons_succ]
              refine wpAnyK_take (i := 9) (oi := { dst := some 109, op := Op.fieldAddr 44 (Operand.tmp 11) 1, type := 0, pos := "ref.go:30", after := #[], guard := none }) (v := ?vh9) rfl (by kernel_rfl) (by kernel_rfl) (by kernel_rfl) (by kernel_rfl) (fun _ _ _ h => h) (Or.inl ⟨by rfl, ?hyh9⟩) (by assumption) ?resth9
              case hyh9 => first | (intro w hSw; (try dsimp only at hSw); go_simp; done) | (intro w hSw; (try dsimp only at hSw); go_simp; with_reducible rfl)
              try simp only [Act.put, List.setIfInBounds_toArray, List.set_cons_zero, List.set_cons_succ]
              refine wpAnyK_take (i := 10) (oi := { dst := some 110, op := Op.load 3 (Operand.tmp 109), type := 3, pos := "ref.go:30", after := #[{ on := 9, ground := Ground.data }], guard := none }) (v := ?vh10) rfl (by kernel_rfl) (by kernel_rfl) (by kernel_rfl) (by kernel_rfl) (fun _ _ _ h => h) (Or.inl ⟨by rfl, ?hyh10⟩) (by assumption) ?resth10
              case hyh10 => first | (intro w hSw; (try dsimp only at hSw); go_simp; done) | (intro w hSw; (try dsimp only at hSw); go_simp; with_reducible rfl)
              try simp only [Act.put, List.setIfInBounds_toArray, List.set_cons_zero, List.set_cons_succ]
              refine wpAnyK_take (i := 11) (oi := { dst := some 111, op := Op.indexAddr 33 (Operand.tmp 108) (Operand.tmp 110), type := 0, pos := "ref.go:30", after := #[{ on := 8, ground := Ground.data }, { on := 10, ground := Ground.data }], guard := none }) (v := ?vh11) rfl (by kernel_rfl) (by kernel_rfl) (by kernel_rfl) (by kernel_rfl) (fun _ _ _ h => h) (Or.inl ⟨by rfl, ?hyh11⟩) (by assumption) ?resth11
              case hyh11 => first | (intro w hSw; (try dsimp only at hSw); go_simp; done) | (intro w hSw; (try dsimp only at hSw); go_simp; with_reducible rfl)
              try simp only [Act.put, List.setIfInBounds_toArray, List.set_cons_zero, List.set_cons_succ]
              refine wpAnyK_take (i := 12) (oi := { dst := some 112, op := Op.load 45 (Operand.tmp 111), type := 45, pos := "ref.go:30", after := #[{ on := 11, ground := Ground.data }], guard := none }) (v := ?vh12) rfl (by kernel_rfl) (by kernel_rfl) (by kernel_rfl) (by kernel_rfl) (fun _ _ _ h => h) (Or.inl ⟨by rfl, ?hyh12⟩) (by assumption) ?resth12
              case hyh12 => first | (intro w hSw; (try dsimp only at hSw); go_simp; done) | (intro w hSw; (try dsimp only at hSw); go_simp; with_reducible rfl)
              try simp only [Act.put, List.setIfInBounds_toArray, List.set_cons_zero, List.set_cons_succ]
              refine wpAnyK_take (i := 13) (oi := { dst := some 113, op := Op.call { callee := Callee.builtin Builtin.len, args := #[Operand.tmp 112], argTypes := #[45] }, type := 3, pos := "ref.go:30", after := #[{ on := 12, ground := Ground.data }], guard := none }) (v := ?vh13) rfl (by kernel_rfl) (by kernel_rfl) (by kernel_rfl) (by kernel_rfl) (fun _ _ _ h => h) (Or.inl ⟨by rfl, ?hyh13⟩) (by assumption) ?resth13
              case hyh13 => first | (intro w hSw; (try dsimp only at hSw); go_simp; done) | (intro w hSw; (try dsimp only at hSw); go_simp; with_reducible rfl)
              try simp only [Act.put, List.setIfInBounds_toArray, List.set_cons_zero, List.set_cons_succ]
              refine wpAnyK_take (i := 14) (oi := { dst := some 114, op := Op.binOp BinOp.mul 3 (Operand.tmp 107) (Operand.tmp 113) 3, type := 3, pos := "ref.go:30", after := #[{ on := 7, ground := Ground.data }, { on := 13, ground := Ground.data }], guard := none }) (v := ?vh14) rfl (by kernel_rfl) (by kernel_rfl) (by kernel_rfl) (by kernel_rfl) (fun _ _ _ h => h) (Or.inl ⟨by rfl, ?hyh14⟩) (by assumption) ?resth14
              case hyh14 => first | (intro w hSw; (try dsimp only at hSw); go_simp; done) | (intro w hSw; (try dsimp only at hSw); go_simp; with_reducible rfl)
              try simp only [Act.put, List.setIfInBounds_toArray, List.set_cons_zero, List.set_cons_succ]
              refine wpAnyK_take (i := 15) (oi := { dst := some 115, op := Op.binOp BinOp.add 3 (Operand.tmp 106) (Operand.tmp 114) 3, type := 3, pos := "ref.go:30", after := #[{ on := 6, ground := Ground.data }, { on := 14, ground := Ground.data }], guard := none }) (v := ?vh15) rfl (by kernel_rfl) (by kernel_rfl) (by kernel_rfl) (by kernel_rfl) (fun _ _ _ h => h) (Or.inl ⟨by rfl, ?hyh15⟩) (by assumption) ?resth15
              case hyh15 => first | (intro w hSw; (try dsimp only at hSw); go_simp; done) | (intro w hSw; (try dsimp only at hSw); go_simp; with_reducible rfl)
              try simp only [Act.put, List.setIfInBounds_toArray, List.set_cons_zero, List.set_cons_succ]
              refine wpAnyK_ready (rs := [16]) (by kernel_rfl) (by simp) ?_
              refine AllReadyK.cons (o := { dst := some 116, op := Op.call { callee := Callee.value (Operand.func 45), args := #[Operand.tmp 102, Operand.tmp 103, Operand.tmp 105, Operand.tmp 115], argTypes := #[33, 22, 3, 3] }, type := 36, pos := "ref.go:30", after := #[{ on := 2, ground := Ground.data }, { on := 3, ground := Ground.data }, { on := 5, ground := Ground.data }, { on := 15, ground := Ground.data }], guard := none }) rfl (fun K hK => ?_) AllReadyK.nil
              go_simp
              ((refine (hcall.out _ (below_drewN _ wr 1)).mono ?_); rintro rk wc ⟨cs, rfl, hbc, hrdc⟩)
              have hbc2 := (below_drewN wr.heap.size wr 1).trans hbc
              obtain ⟨x0, x1, x2, x3, rfl, hx14⟩ := cells4 hrdc.now
              have hTc := hin.tb.below hbc2
              have ⟨_, _, _, _, t3, tf⟩ := hTc
              refine hK.out _ _ (.inr ?_) (fun hHeld0 => ?_)
              · exact ⟨t3, (hbc2.cell (p := ⟨wi.heap.size, 1, none⟩) (Nat.lt_of_lt_of_le hfBk hin.sz)).trans gf, (hbc2.cell (p := ⟨sb, so + tn, none⟩) (Nat.lt_of_lt_of_le hsbk hin.sz)).trans gz⟩
              have hHeld := hHeld0.resolve_left (by decide)
              clear hHeld0 hK K
              try simp only [Act.put, List.setIfInBounds_toArray, List.set_cons_zero, List.set_cons_succ]
              refine wpAnyK_ready (rs := [17]) (by kernel_rfl) (by simp) ?_
              refine AllReadyK.cons (o := { dst := some 117, op := Op.buildSlice 34 1 #[(0, Operand.tmp 116)], type := 34, pos := "ref.go:30", after := #[{ on := 16, ground := Ground.data }], guard := none }) rfl (fun K hK => ?_) AllReadyK.nil
              go_simp
              have hba := below_alloc wc (.cells #[x0, x1, x2, x3] 36)
              have hTa := hTc.below hba
              have ⟨_, _, _, _, ta3, _⟩ := hTa
              have hbca := via hbc2 hba
              refine hK.out _ _ (.inr ?_) (fun hHeld0 => ?_)
              · exact ⟨ta3, (hbca.cell (p := ⟨wi.heap.size, 1, none⟩) (Nat.lt_of_lt_of_le hfBk hin.sz)).trans gf, (hbca.cell (p := ⟨sb, so + tn, none⟩) (Nat.lt_of_lt_of_le hsbk hin.sz)).trans gz⟩
              have hHeld := hHeld0.resolve_left (by decide)
              clear hHeld0 hK K
              try simp only [Act.put, List.setIfInBounds_toArray, List.set_cons_zero, List.set_cons_succ]
              refine wpAnyK_ready (rs := [18]) (by kernel_rfl) (by simp) ?_
              refine AllReadyK.cons (o := { dst := some 118, op := Op.call { callee := Callee.builtin Builtin.append, args := #[Operand.tmp 101, Operand.tmp 117], argTypes := #[34, 34] }, type := 34, pos := "ref.go:30", after := #[{ on := 1, ground := Ground.data }, { on := 17, ground := Ground.data }, { on := 16, ground := Ground.chain }], guard := none }) rfl (fun K hK => ?_) AllReadyK.nil
              rw [if_pos (by rfl)]
              have hown6 := own_beneath hin.own hbca
              have hsz6 : wk.heap.size ≤ (wc.alloc (.cells #[x0, x1, x2, x3] 36)).heap.size := Nat.le_trans hin.sz hbca.size
              refine wp_append_own_at _ (.tmp 101) (.tmp 117) 34 rfl wk.heap.size 36 iT _ 4 72 Tryz.underlying34 hiT hzT hsT hbT rfl (by omega) _ j _ rfl hown6 ⟨wc.heap.size, 0, none⟩ 1 1 [x0, x1, x2, x3] rfl rfl (news_at _ _ rfl #[x0, x1, x2, x3] 36) hx14 (by unfold maxLen; omega) (by omega) hsz6 ?_
              intro v7 w7 ho7 hg7 _ hat7
              obtain ⟨a7, c7, rfl⟩ := own_shape ho7
              have hne7 : ∀ b, b < wk.heap.size → (Value.slice ak j ck).ownBlock ≠ some b := fun b hb e => by have := (own_blk hin.own e).2; omega
              have hT7 := hTa.grown hg7 (hne7 B hBk)
              have ⟨_, _, _, _, u3, uf⟩ := hT7
              have uf3 := uf 3
              have hb7 : ∀ b, b < wr.heap.size → b < wk.heap.size → w7.heap[b]? = wr.heap[b]? := fun b h1 h2 => (hg7.block b (Nat.lt_of_lt_of_le h1 hbca.size) (fun e => hne7 b h2 e.symm)).trans (hbca.block b h1)
              refine hK.out _ _ (.inr ?_) (fun hHeld0 => ?_)
              · exact ⟨u3, (World.cell?_of_block (a := ⟨wi.heap.size, 1, none⟩) (hb7 wi.heap.size (Nat.lt_of_lt_of_le hfBk hin.sz) hfBk)).trans gf, (World.cell?_of_block (a := ⟨sb, so + tn, none⟩) (hb7 sb (Nat.lt_of_lt_of_le hsbk hin.sz) hsbk)).trans gz⟩
              have hHeld := hHeld0.resolve_left (by decide)
              clear hHeld0 hK K
              try simp only [Act.put, List.setIfInBounds_toArray, List.set_cons_zero, List.set_cons_succ]
              refine wpAnyK_take (i := 19) (oi := { dst := some 119, op := Op.fieldAddr 36 (Operand.tmp 15) 3, type := 0, pos := "ref.go:30", after := #[{ on := 0, ground := Ground.phase }, { on := 1, ground := Ground.phase }, { on := 2, ground := Ground.phase }, { on := 3, ground := Ground.phase }, { on := 4, ground := Ground.phase }, { on := 5, ground := Ground.phase }, { on := 6, ground := Ground.phase }, { on := 7, ground := Ground.phase }, { on := 8, ground := Ground.phase }, { on := 9, ground := Ground.phase }, { on := 10, ground := Ground.phase }, { on := 11, ground := Ground.phase }, { on := 12, ground := Ground.phase }, { on := 13, ground := Ground.phase }, { on := 14, ground := Ground.phase }, { on := 15, ground := Ground.phase }, { on := 16, ground := Ground.phase }, { on := 17, ground := Ground.phase }, { on := 18, ground := Ground.phase }], guard := none }) (v := ?vh19) rfl (by kernel_rfl) (by kernel_rfl) (by kernel_rfl) (by kernel_rfl) (fun _ _ _ h => h) (Or.inl ⟨by rfl, ?hyh19⟩) (by assumption) ?resth19
              case hyh19 => first | (intro w hSw; (try dsimp only at hSw); go_simp; done) | (intro w hSw; (try dsimp only at hSw); go_simp; with_reducible rfl)
              try simp only [Act.put, List.setIfInBounds_toArray, List.set_cons_zero, List.set_cons_succ]
              refine wpAnyK_ready (rs := [20]) (by kernel_rfl) (by simp) ?_
              refine AllReadyK.cons (o := { dst := none, op := Op.store 34 (Operand.tmp 119) (Operand.tmp 118), type := 0, pos := "ref.go:30", after := #[{ on := 19, ground := Ground.data }, { on := 18, ground := Ground.data }, { on := 18, ground := Ground.chain }, { on := 0, ground := Ground.phase }, { on := 1, ground := Ground.phase }, { on := 2, ground := Ground.phase }, { on := 3, ground := Ground.phase }, { on := 4, ground := Ground.phase }, { on := 5, ground := Ground.phase }, { on := 6, ground := Ground.phase }, { on := 7, ground := Ground.phase }, { on := 8, ground := Ground.phase }, { on := 9, ground := Ground.phase }, { on := 10, ground := Ground.phase }, { on := 11, ground := Ground.phase }, { on := 12, ground := Ground.phase }, { on := 13, ground := Ground.phase }, { on := 14, ground := Ground.phase }, { on := 15, ground := Ground.phase }, { on := 16, ground := Ground.phase }, { on := 17, ground := Ground.phase }, { on := 18, ground := Ground.phase }], guard := none }) rfl (fun K hK => ?_) AllReadyK.nil
              go_simp
              refine hK.out _ _ (.inl rfl) (fun hHeld0 => ?_)
              clear hHeld0 hK K
              try simp only [Act.put, List.setIfInBounds_toArray, List.set_cons_zero, List.set_cons_succ]
              refine wpAnyK_done (by kernel_rfl) ?_ _
              have hrel2 := hid (show InD G wi wk B n (.int .i64 (j + 1 : Nat)) _ from ⟨j + 1, _, _, by omega, rfl, hin.next hbc2 (hrdc.mono fun b hb e => e) rfl hba ho7 hg7 hat7⟩)
              go_wp2_with fail
              go_roundw
              case rel => exact hrel2.out
              case measure => simp [intOf] <;> omega
            · obtain rfl : j = n := by omega
              obtain ⟨w5, hw5⟩ : ∃ w5, w5 = wr := ⟨_, rfl⟩
              have hFe : (⟨0#64, ⟨#[]⟩, [], (List.range j).map G⟩ : Node (St (k0' + 1))) = F i := hFi'.out.symm
              have hF5 : FieldJ (⟨0#64, ⟨#[]⟩, [], (List.range j).map G⟩ : Node (St (k0' + 1))) wi w5 B (.int .u64 0) (.string ⟨#[]⟩) (.slice none 0 0) (.slice ak j ck) :=
                hw5 ▸ ⟨hin.bl, hin.tb, hin.read (by omega)⟩
              subst hw5
              clear k0 k1 k2 k3 kf hin gf
              have htv5 := hI.tv.below hF5.bl
              have ⟨_, v0, v1, v2, v3, vf⟩ := htv5
              have ⟨_, q0, q1, q2, q3, _⟩ := hF5.tb
              have hba5 := below_alloc w5 (.cells #[.int .u64 0, (.string ⟨#[]⟩), (.slice none 0 0), .slice ak j ck] 36)
              have hown5 := own_beneath hI.own (via hF5.bl hba5)
              have hle5 : w2.heap.size ≤ (w5.alloc (.cells #[.int .u64 0, (.string ⟨#[]⟩), (.slice none 0 0), .slice ak j ck] 36)).heap.size := Nat.le_trans hI.sz (via hF5.bl hba5).size
              have htv6 := htv5.below hba5
              have hvne : (Value.slice ao i co).ownBlock ≠ some V := (fun e => by have := (own_blk hI.own e).2; have := hI.vr; omega)
              go_wp2_with (at_builtin; go_must (refine wpList_append_own_at _ rfl (.tmp 121) (.tmp 123) 34 rfl w2.heap.size 36 iT _ 4 72 Tryz.underlying34 hiT hzT hsT hbT rfl (by omega) _ i _ rfl hown5 ⟨w5.heap.size, 0, none⟩ 1 1 [.int .u64 0, (.string ⟨#[]⟩), (.slice none 0 0), .slice ak j ck] rfl rfl (news_at _ _ rfl #[.int .u64 0, (.string ⟨#[]⟩), (.slice none 0 0), .slice ak j ck] 36) (by simp [Value.oneCell', U]) (by unfold maxLen; omega) (by omega) hle5 ?_); intro v7 w7 ho7 hg7 _ hat7; have ⟨_, _, _, _, y3, yf⟩ := htv6.grown hg7 hvne; have yf3 := yf 3; obtain ⟨a7, c7, rfl⟩ := own_shape ho7; have hrel2 := hid (show OutD F w w2 w.heap.size V N (.int .i64 (i + 1 : Nat)) _ from ⟨i + 1, _, _, by omega, rfl, hI.next hF5 hFe hba5 ho7 hg7 hat7⟩))
              go_roundw
              case rel => exact hrel2.out
              case measure => simp [intOf] <;> omega
    · obtain rfl : i = N := by omega
      have ⟨vlt, v0, v1, v2, v3, vf⟩ := hI.tv
      have ⟨rlt, r0, r1, r2, r3, rf⟩ := hI.tr
      have f0 := rf 0
      have f1 := rf 1
      have f2 := rf 2
      have f3 := rf 3
      have hR9 := (((hI.tr.set0 (.int .u64 0)).set1 (.string ⟨#[]⟩)).set2 (.slice none 0 0)).set3 (.slice ao i co)
      have hk9 : ∀ b, b ≠ w.heap.size → ((((wr.setCell ⟨w.heap.size, 0, none⟩ (.int .u64 0)).setCell ⟨w.heap.size, 1, none⟩ (.string ⟨#[]⟩)).setCell ⟨w.heap.size, 2, none⟩ (.slice none 0 0)).setCell ⟨w.heap.size, 3, none⟩ (.slice ao i co)).heap[b]? = wr.heap[b]? := fun b hb => by
        rw [Below.heap_setCell _ _ _ _ hb, Below.heap_setCell _ _ _ _ hb, Below.heap_setCell _ _ _ _ hb, Below.heap_setCell _ _ _ _ hb]
      have hfin := hI.done (by omega) hk9 (by simp [World.setCell])
      have hbl9 := (((hI.bl.setCell (p := ⟨w.heap.size, 0, none⟩) (Nat.le_refl _) (.int .u64 0)).setCell (p := ⟨w.heap.size, 1, none⟩) (Nat.le_refl _) (.string ⟨#[]⟩)).setCell (p := ⟨w.heap.size, 2, none⟩) (Nat.le_refl _) (.slice none 0 0)).setCell (p := ⟨w.heap.size, 3, none⟩) (Nat.le_refl _) (.slice ao i co)
      have Hfin := hid (And.intro hfin hbl9)
      clear rf vf hk9 hfin hbl9
      go_wp2_with fail
      clear r0 r1 r2 r3 f0 f1 f2 f3 v0 v1 v2 v3
      generalize (((wr.setCell ⟨w.heap.size, 0, none⟩ (.int .u64 0)).setCell ⟨w.heap.size, 1, none⟩ (.string ⟨#[]⟩)).setCell ⟨w.heap.size, 2, none⟩ (.slice none 0 0)).setCell ⟨w.heap.size, 3, none⟩ (.slice ao i co) = w9 at *
      have ⟨_, r0, r1, r2, r3, _⟩ := hR9
      (try simp only [Exit.inBlock, Exit.then])
      refine bodyPost_ret (by simp [results, Tryz.results45, go_sem, r0, r1, r2, r3]; try rfl) rfl ?_
      obtain ⟨g1, g3⟩ := Hfin.out
      unfold DecP
      rw [Hgoal.out]
      exact ⟨_, rfl, g3, g1⟩

theorem strct9_any (s : Schema) (hr : rightB s = true) (ws : List (BitVec 64)) (hL0 : 0 < ws.length) (hL200 : ws.length ≤ 200) (sv wv : Value) : ∀ (k : Nat) (t : Nat), t < s.length → ∀ (p : Nat) (w : World), Sch w sv s → Row w 1 wv ws.length (ws.map U) → VisOk s ws k t p →
    Calls Tryz.prog 45 #[sv, wv, .int .i64 t, .int .i64 p] w (DecP s ws k t p w) := by
  intro k
  induction k with
  | zero => exact strct9_step s hr ws hL0 hL200 sv wv 0 (fun k0 h => by omega)
  | succ k ih => exact strct9_step s hr ws hL0 hL200 sv wv (k + 1) (fun k0 h => by
      obtain rfl : k0 = k := by omega
      exact ih)
end SRStrct9

end Go.Proofs.YtogaclolodlnbaaGreatDoor


/- The document's made: a struct by numbers. -/
import Derived.Test.YtblbhlgihlgncaaDoorGh
import Derived.Test.YtblbhlgihlgncaaDoorGg
set_option linter.unusedVariables false
set_option linter.unusedSimpArgs false
namespace Go.Proofs.YtblbhlgihlgncaaDoor
section SMadeT
open Go.RowKit

theorem infoTree : (Tryd.prog.info? 32).map (fun i => (i.zero, i.size, i.bytes)) = some (some (.agg #[.int .u64 0, .string ByteArray.empty, .slice none 0 0, .slice none 0 0]), 4, 72) := by kernel_rfl
theorem infoU64 : (Tryd.prog.info? 28).map (fun i => (i.zero, i.size, i.bytes)) = some (some (.int .u64 0), 1, 8) := by kernel_rfl

@[go_sem] theorem conv_one (w : World) (x : Int) : Sem.run Tryd.prog (convert 144 9 (.slice (some ⟨w.heap.size, 0, none⟩) 1 1)) (w.alloc (.cells #[.int .u8 (x % 256)] 5))
    = .ok (.string ⟨#[UInt8.ofNat (x % 256).toNat]⟩) (w.alloc (.cells #[.int .u8 (x % 256)] 5)) := by
  have h := run_convert_bytes_back (P := Tryd.prog) (w.alloc (.cells #[.int .u8 (x % 256)] 5)) 144 9 5 ⟨w.heap.size, 0, none⟩ 1 [UInt8.ofNat (x % 256).toNat] Tryd.underlying144 Tryd.underlying5 Tryd.underlying9 (fun j hj => by
    obtain rfl : j = 0 := by simpa using hj
    have e : ((UInt8.ofNat (x % 256).toNat).toNat : Int) = x % 256 := by
      rw [UInt8.toNat_ofNat']; omega
    simp [Addr.add] <;> omega)
  exact h
theorem size_one (b : ByteArray) (c : UInt8) : (b ++ ⟨#[c]⟩).size = b.size + 1 := by
  rw [ByteArray.size_append]; rfl

def MadeTP (s : Schema) (D : Nat) (t : Nat) (lv : Value) (ls : List Int) (w : World) (e : Ending) (w' : World) : Prop :=
  ∃ cs X lv' ls', e = .returned (.tuple #[.agg cs.toArray, lv']) ∧ Below w.heap.size w w' ∧ KW (fun b => b < w.heap.size) w' (fun W => RdS (D + 1) W cs X) ∧ FitT s (D + 1) t X ∧ Suf lv ls lv' ls'

def OutRel (s : Schema) (D : Nat) (t : Nat) (lv0 : Value) (ls0 : List Int) (w w2 : World) (R V N : Nat) (lv iv : Value) (wr : World) : Prop :=
  ∃ (i : Nat) (ks : List (Node (St D))) (xs : List Value) (vk : Value) (ls : List Int), i ≤ N ∧ iv = .int .i64 i ∧ OutI s D t w w2 R V i ks xs vk wr ∧ Suf lv0 ls0 lv ls

def BytesRel (wi : World) (B q : Nat) (iv : Value) (wx : World) : Prop :=
  ∃ (j : Nat) (b : ByteArray), j ≤ q ∧ iv = .int .i64 j ∧ b.size = j ∧ Below wi.heap.size wi wx ∧ TB wx B (.int .u64 0) (.string b) (.slice none 0 0) (.slice none 0 0)

def NumsRel (wi wk : World) (B q : Nat) (iv : Value) (wx : World) : Prop :=
  ∃ (j : Nat) (l2 : List (BitVec 64)) (kn : Value), j ≤ q ∧ iv = .int .i64 j ∧ l2.length = j ∧ Below wi.heap.size wi wx ∧ wk.heap.size ≤ wx.heap.size ∧ TB wx B (.int .u64 0) (.string ⟨#[]⟩) kn (.slice none 0 0) ∧ wx.ownsRow wk.heap.size 28 1 kn j (l2.map U)

def KidsRel (s : Schema) (D : Nat) (ty : Int) (lv0 : Value) (ls0 : List Int) (wi wk : World) (B M : Nat) (lv iv : Value) (wx : World) : Prop :=
  ∃ (j : Nat) (ks : List (St D)) (xs : List Value) (kv : Value) (ls : List Int), j ≤ M ∧ iv = .int .i64 j ∧ InI s D ty wi wk B j ks xs kv wx ∧ Suf lv0 ls0 lv ls

set_option maxRecDepth 100000 in
set_option maxHeartbeats 200000000 in
theorem madeT_step (s : Schema) (hr : rightB s = true) (sv : Value) (D E : Nat) (hD : D ≤ 64) (hE : E = D + 1)
    (ih : ∀ D0 E0 : Nat, D = D0 + 1 → E0 = D0 + 1 → ∀ (t : Nat) (ht : t < s.length) (lv : Value) (ls : List Int) (w : World), Sch w sv s → Row w 1 lv ls.length (ls.map (Value.int .i64)) → (∀ z ∈ ls, -9223372036854775808 ≤ z ∧ z ≤ 9223372036854775807) →
      Calls Tryd.prog 48 #[sv, .int .i64 t, lv, .int .i64 E0] w (MadeTP s D0 t lv ls w))
    (t : Nat) (ht : t < s.length) (lv : Value) (ls : List Int) (w : World) (hs : Sch w sv s) (hrow : Row w 1 lv ls.length (ls.map (Value.int .i64))) (hb : ∀ z ∈ ls, -9223372036854775808 ≤ z ∧ z ≤ 9223372036854775807) :
    Calls Tryd.prog 48 #[sv, .int .i64 t, lv, .int .i64 E] w (MadeTP s D t lv ls w) := by
  have HE := hid hE
  clear hE
  obtain ⟨iT, hiT, hzT, hsT, hbT⟩ := info_parts infoTree
  obtain ⟨iU, hiU, hzU, hsU, hbU⟩ := info_parts infoU64
  obtain ⟨sa, scap, hsv, _, _, hsm⟩ := hs.shape
  unfold maxLen at hsm
  obtain ⟨n, hn⟩ : ∃ n, n = s.length := ⟨_, rfl⟩
  rw [← hn] at hsm hsv ht
  subst hsv
  obtain ⟨l, hl⟩ := get_lt (l := s) (i := t) (by rw [← hn]; exact ht)
  obtain ⟨N, hN⟩ : ∃ N, N = l.length := ⟨_, rfl⟩
  have Hih := hid ih
  have Hs := hid (fun W (hW : Below w.heap.size w W) => hs.below hW (Nat.le_refl _))
  have Hl := hid hl
  have HN := hid hN
  have Hn := hid hn
  have Htl := hid (typeL_at hl)
  have Hrow := hid hrow
  have Hb := hid hb
  obtain ⟨w1, hw1, hb1, hz1, hR⟩ := TB.make w (.int .u64 0) (.string ⟨#[]⟩) (.slice none 0 0) (.slice none 0 0) 32
  obtain ⟨w2, hw2, hb2, hz2, hV⟩ := TB.make w1 (.int .u64 0) (.string ⟨#[]⟩) (.slice none 0 0) (.slice none 0 0) 32
  obtain ⟨V, hVe⟩ : ∃ V, w.heap.size + 1 = V := ⟨_, rfl⟩
  obtain ⟨lv0, hlv0⟩ : ∃ lv0, lv0 = lv := ⟨_, rfl⟩
  obtain ⟨ls0, hls0⟩ : ∃ ls0, ls0 = ls := ⟨_, rfl⟩
  have hbw := via hb1 hb2
  rw [hz1, hVe] at hV
  have hrel0 := hid (show OutRel s D t lv0 ls0 w w2 w.heap.size V N lv (.int .i64 0) w2 from
    ⟨0, [], [], .slice none 0 0, ls, Nat.zero_le _, rfl, ⟨rfl, hbw, Nat.le_refl _, hV, hR.below hb2, own_nil _ _ _ _, KK.nil _ _ _, fun j k h => by simp at h, Nat.le_refl _, by omega, by omega⟩, by rw [hlv0, hls0]; exact Suf.refl _ _⟩)
  clear hR hV hb1 hb2 ih hs hl hN hn hrow hb
  go_enter Tryd.func48, Tryd.ntmps48
  go_wp2_with fail
  clear hw1 hw2
  go_loopw [2, 11] (fun lv iv wr => OutRel s D t lv0 ls0 w w2 w.heap.size V N lv iv wr) (fun _ iv _ => N - (intOf iv).toNat)
  case atStart => exact hrel0.out
  case round =>
    clear hrel0
    obtain ⟨i, ks, xs, vk, ls2, hi, rfl, hI, hsuf⟩ := hrel
    obtain ⟨ao, co, rfl⟩ := own_shape hI.own
    obtain ⟨bs, offs, al, capl, hsa, hbs3, hcl, hfl, hlm, _, _⟩ := (Hs.out _ hI.bl).at_ Hl.out
    subst hsa
    rw [← HN.out] at hcl hlm hfl
    unfold maxLen at hlm
    have hrow2 := (hsuf.1 w (hlv0 ▸ hls0 ▸ Hrow.out)).below hI.bl (Nat.le_refl _)
    obtain ⟨av, cv, rfl, hcv1, hcv2, hrc⟩ := hrow2.open
    have hmv := hrow2.most
    unfold maxLen at hcv2 hmv
    obtain ⟨m, hm⟩ : ∃ m, m = ls2.length := ⟨_, rfl⟩
    rw [← hm] at hrc hcv1 hmv hrow2 hsuf ⊢
    have Hm := hid hm
    clear hm
    by_cases hiN : i < N
    · obtain ⟨⟨kd, ty⟩, hp⟩ := get_lt (l := l) (i := i) (by rw [← HN.out]; exact hiN)
      obtain ⟨bl, offl, hal, hbbl, r0, r1⟩ := hfl.at_ hp
      subst hal
      simp only at r0 r1
      obtain ⟨hkd1, hkd5, hty0, htyn, _⟩ := right_at hr Hl.out hp
      simp only at hkd1 hkd5 hty0 htyn
      rw [← Hn.out] at htyn
      obtain ⟨tn, rfl⟩ : ∃ tn : Nat, ty = (tn : Int) := ⟨ty.toNat, by omega⟩
      have Hfp := hid (show fieldP s t i = (kd, (tn : Int)) from fieldP_at (by rw [Htl.out]; exact hp))
      obtain ⟨wf, hwf, hbf, hltf, hboxf⟩ := boxed wr #[.int .i64 kd, .int .i64 (tn : Int)] 24
      have g0 : wf.cell? ⟨wr.heap.size, 0, none⟩ = some (.int .i64 kd) := hboxf 0
      have g1 : wf.cell? ⟨wr.heap.size, 1, none⟩ = some (.int .i64 (tn : Int)) := hboxf 1
      obtain ⟨wk, hwk, hbk, hzk, hK⟩ := TB.make wf (.int .u64 0) (.string ⟨#[]⟩) (.slice none 0 0) (.slice none 0 0) 32
      have gk0 := (hbk.cell (p := ⟨wr.heap.size, 0, none⟩) hltf).trans g0
      have gk1 := (hbk.cell (p := ⟨wr.heap.size, 1, none⟩) hltf).trans g1
      have hwrk : Below wr.heap.size wr wk := via hbf hbk
      clear hbf hbk hboxf hp
      by_cases hm0 : m = 0
      · subst hm0
        have hK0 := hK
        have ⟨_, k0, k1, k2, k3, kf⟩ := hK
        have kf0 := kf 0
        have kf1 := kf 1
        have kf2 := kf 2
        have kf3 := kf 3
        rcases (show kd = 1 ∨ kd = 2 ∨ kd = 3 ∨ kd = 4 ∨ kd = 5 by omega) with rfl | rfl | rfl | rfl | rfl
        · skip
          obtain ⟨w5, hw5⟩ : ∃ w5, wk.setCell ⟨wf.heap.size, 0, none⟩ (U 0#64) = w5 := ⟨_, rfl⟩
          have hF : FieldI s D t i wr w5 wf.heap.size ⟨0#64, ⟨#[]⟩, [], []⟩ (U 0#64) (.string ⟨#[]⟩) (.slice none 0 0) (.slice none 0 0) :=
            hw5 ▸ ⟨hwrk.setCell (by show wr.heap.size ≤ wf.heap.size; omega) _, hK0.set0 _, fun W hW => RdN.mk' (t := ⟨0#64, ⟨#[]⟩, [], []⟩) ⟨by show (⟨#[]⟩ : ByteArray).size ≤ 1000; decide, by simp, by simp⟩ (Row.nil W 1) (Kids.nil _ W), by
              refine ⟨?_, ⟨by show (⟨#[]⟩ : ByteArray).size ≤ 15; decide, by simp, by simp⟩, fun x hx => by simp at hx⟩
              rw [Hfp.out]; rfl⟩
          have htv5 := hI.tv.below hF.bl
          have ⟨_, v0, v1, v2, v3, vf⟩ := htv5
          have ⟨_, q0, q1, q2, q3, _⟩ := hF.tb
          have hba := below_alloc w5 (.cells #[(U 0#64), (.string ⟨#[]⟩), (.slice none 0 0), (.slice none 0 0)] 32)
          have hown5 := own_beneath hI.own (via hF.bl hba)
          have hle5 : w2.heap.size ≤ (w5.alloc (.cells #[(U 0#64), (.string ⟨#[]⟩), (.slice none 0 0), (.slice none 0 0)] 32)).heap.size := Nat.le_trans hI.sz (via hF.bl hba).size
          have htv6 := htv5.below hba
          have hvne : (Value.slice ao i co).ownBlock ≠ some V := fun e => by have := (own_blk hI.own e).2; have := hI.vr; omega
          have hn1000 : i < 1000 := by have := typeL_len hr t; rw [Htl.out, ← HN.out] at this; omega
          go_wp2_with (at_builtin; go_must (refine wpList_append_own_at _ rfl (.tmp 125) (.tmp 127) 30 rfl w2.heap.size 32 iT _ 4 72 Tryd.underlying30 hiT hzT hsT hbT rfl (by omega) _ i _ rfl hown5 ⟨w5.heap.size, 0, none⟩ 1 1 [(U 0#64), (.string ⟨#[]⟩), (.slice none 0 0), (.slice none 0 0)] rfl rfl (news_at _ _ rfl #[(U 0#64), (.string ⟨#[]⟩), (.slice none 0 0), (.slice none 0 0)] 32) (by simp [Value.oneCell', U]) (by unfold maxLen; omega) (by omega) hle5 ?_); intro v7 w7 ho7 hg7 _ hat7; have ⟨_, _, _, _, y3, yf⟩ := htv6.grown hg7 hvne; have yf3 := yf 3; obtain ⟨a7, c7, rfl⟩ := own_shape ho7; have hrel2 := hid (show OutRel s D t lv0 ls0 w w2 w.heap.size V N (.slice av 0 cv) (.int .i64 (i + 1 : Nat)) _ from ⟨i + 1, _, _, _, _, by omega, rfl, hI.next hF ho7 hg7 hat7, hsuf⟩))
          go_roundw
          case rel => exact hrel2.out
          case measure => simp [intOf] <;> omega
        · skip
          obtain ⟨w5, hw5⟩ : ∃ w5, w5 = wk := ⟨_, rfl⟩
          have hF : FieldI s D t i wr w5 wf.heap.size ⟨0#64, ⟨#[]⟩, [], []⟩ (.int .u64 0) (.string ⟨#[]⟩) (.slice none 0 0) (.slice none 0 0) :=
            hw5 ▸ ⟨hwrk, hK0, fun W hW => RdN.mk' (t := ⟨0#64, ⟨#[]⟩, [], []⟩) ⟨by show (⟨#[]⟩ : ByteArray).size ≤ 1000; decide, by simp, by simp⟩ (Row.nil W 1) (Kids.nil _ W), by
              refine ⟨?_, ⟨by show (⟨#[]⟩ : ByteArray).size ≤ 15; decide, by simp, by simp⟩, fun x hx => by simp at hx⟩
              rw [Hfp.out]; rfl⟩
          subst hw5
          clear hzk
          have htv5 := hI.tv.below hF.bl
          have ⟨_, v0, v1, v2, v3, vf⟩ := htv5
          have ⟨_, q0, q1, q2, q3, _⟩ := hF.tb
          have hba := below_alloc w5 (.cells #[(.int .u64 0), (.string ⟨#[]⟩), (.slice none 0 0), (.slice none 0 0)] 32)
          have hown5 := own_beneath hI.own (via hF.bl hba)
          have hle5 : w2.heap.size ≤ (w5.alloc (.cells #[(.int .u64 0), (.string ⟨#[]⟩), (.slice none 0 0), (.slice none 0 0)] 32)).heap.size := Nat.le_trans hI.sz (via hF.bl hba).size
          have htv6 := htv5.below hba
          have hvne : (Value.slice ao i co).ownBlock ≠ some V := fun e => by have := (own_blk hI.own e).2; have := hI.vr; omega
          have hn1000 : i < 1000 := by have := typeL_len hr t; rw [Htl.out, ← HN.out] at this; omega
          go_wp2_with fail
          refine wp_loop_rounds 1 ?_
          rw [rounds_succ]
          go_wp2_with (at_builtin; go_must (refine wpList_append_own_at _ rfl (.tmp 125) (.tmp 127) 30 rfl w2.heap.size 32 iT _ 4 72 Tryd.underlying30 hiT hzT hsT hbT rfl (by omega) _ i _ rfl hown5 ⟨w5.heap.size, 0, none⟩ 1 1 [(.int .u64 0), (.string ⟨#[]⟩), (.slice none 0 0), (.slice none 0 0)] rfl rfl (news_at _ _ rfl #[(.int .u64 0), (.string ⟨#[]⟩), (.slice none 0 0), (.slice none 0 0)] 32) (by simp [Value.oneCell']) (by unfold maxLen; omega) (by omega) hle5 ?_); intro v7 w7 ho7 hg7 _ hat7; have ⟨_, _, _, _, y3, yf⟩ := htv6.grown hg7 hvne; have yf3 := yf 3; obtain ⟨a7, c7, rfl⟩ := own_shape ho7; have hrel2 := hid (show OutRel s D t lv0 ls0 w w2 w.heap.size V N (.slice av 0 cv) (.int .i64 (i + 1 : Nat)) _ from ⟨i + 1, _, _, _, _, by omega, rfl, hI.next hF ho7 hg7 hat7, hsuf⟩))
          go_roundw
          case rel => exact hrel2.out
          case measure => simp [intOf] <;> omega
        · skip
          obtain ⟨w5, hw5⟩ : ∃ w5, w5 = wk := ⟨_, rfl⟩
          have hF : FieldI s D t i wr w5 wf.heap.size ⟨0#64, ⟨#[]⟩, [], []⟩ (.int .u64 0) (.string ⟨#[]⟩) (.slice none 0 0) (.slice none 0 0) :=
            hw5 ▸ ⟨hwrk, hK0, fun W hW => RdN.mk' (t := ⟨0#64, ⟨#[]⟩, [], []⟩) ⟨by show (⟨#[]⟩ : ByteArray).size ≤ 1000; decide, by simp, by simp⟩ (Row.nil W 1) (Kids.nil _ W), by
              refine ⟨?_, ⟨by show (⟨#[]⟩ : ByteArray).size ≤ 15; decide, by simp, by simp⟩, fun x hx => by simp at hx⟩
              rw [Hfp.out]; rfl⟩
          subst hw5
          clear hzk
          have htv5 := hI.tv.below hF.bl
          have ⟨_, v0, v1, v2, v3, vf⟩ := htv5
          have ⟨_, q0, q1, q2, q3, _⟩ := hF.tb
          have hba := below_alloc w5 (.cells #[(.int .u64 0), (.string ⟨#[]⟩), (.slice none 0 0), (.slice none 0 0)] 32)
          have hown5 := own_beneath hI.own (via hF.bl hba)
          have hle5 : w2.heap.size ≤ (w5.alloc (.cells #[(.int .u64 0), (.string ⟨#[]⟩), (.slice none 0 0), (.slice none 0 0)] 32)).heap.size := Nat.le_trans hI.sz (via hF.bl hba).size
          have htv6 := htv5.below hba
          have hvne : (Value.slice ao i co).ownBlock ≠ some V := fun e => by have := (own_blk hI.own e).2; have := hI.vr; omega
          have hn1000 : i < 1000 := by have := typeL_len hr t; rw [Htl.out, ← HN.out] at this; omega
          go_wp2_with fail
          refine wp_loop_rounds 1 ?_
          rw [rounds_succ]
          go_wp2_with (at_builtin; go_must (refine wpList_append_own_at _ rfl (.tmp 125) (.tmp 127) 30 rfl w2.heap.size 32 iT _ 4 72 Tryd.underlying30 hiT hzT hsT hbT rfl (by omega) _ i _ rfl hown5 ⟨w5.heap.size, 0, none⟩ 1 1 [(.int .u64 0), (.string ⟨#[]⟩), (.slice none 0 0), (.slice none 0 0)] rfl rfl (news_at _ _ rfl #[(.int .u64 0), (.string ⟨#[]⟩), (.slice none 0 0), (.slice none 0 0)] 32) (by simp [Value.oneCell']) (by unfold maxLen; omega) (by omega) hle5 ?_); intro v7 w7 ho7 hg7 _ hat7; have ⟨_, _, _, _, y3, yf⟩ := htv6.grown hg7 hvne; have yf3 := yf 3; obtain ⟨a7, c7, rfl⟩ := own_shape ho7; have hrel2 := hid (show OutRel s D t lv0 ls0 w w2 w.heap.size V N (.slice av 0 cv) (.int .i64 (i + 1 : Nat)) _ from ⟨i + 1, _, _, _, _, by omega, rfl, hI.next hF ho7 hg7 hat7, hsuf⟩))
          go_roundw
          case rel => exact hrel2.out
          case measure => simp [intOf] <;> omega
        · skip
          obtain ⟨w5, hw5⟩ : ∃ w5, w5 = wk := ⟨_, rfl⟩
          have hF : FieldI s D t i wr w5 wf.heap.size ⟨0#64, ⟨#[]⟩, [], []⟩ (.int .u64 0) (.string ⟨#[]⟩) (.slice none 0 0) (.slice none 0 0) :=
            hw5 ▸ ⟨hwrk, hK0, fun W hW => RdN.mk' (t := ⟨0#64, ⟨#[]⟩, [], []⟩) ⟨by show (⟨#[]⟩ : ByteArray).size ≤ 1000; decide, by simp, by simp⟩ (Row.nil W 1) (Kids.nil _ W), by
              refine ⟨?_, ⟨by show (⟨#[]⟩ : ByteArray).size ≤ 15; decide, by simp, by simp⟩, fun x hx => by simp at hx⟩
              rw [Hfp.out]; rfl⟩
          subst hw5
          clear hzk
          have htv5 := hI.tv.below hF.bl
          have ⟨_, v0, v1, v2, v3, vf⟩ := htv5
          have ⟨_, q0, q1, q2, q3, _⟩ := hF.tb
          have hba := below_alloc w5 (.cells #[(.int .u64 0), (.string ⟨#[]⟩), (.slice none 0 0), (.slice none 0 0)] 32)
          have hown5 := own_beneath hI.own (via hF.bl hba)
          have hle5 : w2.heap.size ≤ (w5.alloc (.cells #[(.int .u64 0), (.string ⟨#[]⟩), (.slice none 0 0), (.slice none 0 0)] 32)).heap.size := Nat.le_trans hI.sz (via hF.bl hba).size
          have htv6 := htv5.below hba
          have hvne : (Value.slice ao i co).ownBlock ≠ some V := fun e => by have := (own_blk hI.own e).2; have := hI.vr; omega
          have hn1000 : i < 1000 := by have := typeL_len hr t; rw [Htl.out, ← HN.out] at this; omega
          go_wp2_with fail
          refine wp_loop_rounds 1 ?_
          rw [rounds_succ]
          go_wp2_with (at_builtin; go_must (refine wpList_append_own_at _ rfl (.tmp 125) (.tmp 127) 30 rfl w2.heap.size 32 iT _ 4 72 Tryd.underlying30 hiT hzT hsT hbT rfl (by omega) _ i _ rfl hown5 ⟨w5.heap.size, 0, none⟩ 1 1 [(.int .u64 0), (.string ⟨#[]⟩), (.slice none 0 0), (.slice none 0 0)] rfl rfl (news_at _ _ rfl #[(.int .u64 0), (.string ⟨#[]⟩), (.slice none 0 0), (.slice none 0 0)] 32) (by simp [Value.oneCell']) (by unfold maxLen; omega) (by omega) hle5 ?_); intro v7 w7 ho7 hg7 _ hat7; have ⟨_, _, _, _, y3, yf⟩ := htv6.grown hg7 hvne; have yf3 := yf 3; obtain ⟨a7, c7, rfl⟩ := own_shape ho7; have hrel2 := hid (show OutRel s D t lv0 ls0 w w2 w.heap.size V N (.slice av 0 cv) (.int .i64 (i + 1 : Nat)) _ from ⟨i + 1, _, _, _, _, by omega, rfl, hI.next hF ho7 hg7 hat7, hsuf⟩))
          go_roundw
          case rel => exact hrel2.out
          case measure => simp [intOf] <;> omega
        · skip
          obtain ⟨w5, hw5⟩ : ∃ w5, w5 = wk := ⟨_, rfl⟩
          have hF : FieldI s D t i wr w5 wf.heap.size ⟨0#64, ⟨#[]⟩, [], []⟩ (.int .u64 0) (.string ⟨#[]⟩) (.slice none 0 0) (.slice none 0 0) :=
            hw5 ▸ ⟨hwrk, hK0, fun W hW => RdN.mk' (t := ⟨0#64, ⟨#[]⟩, [], []⟩) ⟨by show (⟨#[]⟩ : ByteArray).size ≤ 1000; decide, by simp, by simp⟩ (Row.nil W 1) (Kids.nil _ W), by
              refine ⟨?_, ⟨by show (⟨#[]⟩ : ByteArray).size ≤ 15; decide, by simp, by simp⟩, fun x hx => by simp at hx⟩
              rw [Hfp.out]; rfl⟩
          subst hw5
          clear hzk
          have htv5 := hI.tv.below hF.bl
          have ⟨_, v0, v1, v2, v3, vf⟩ := htv5
          have ⟨_, q0, q1, q2, q3, _⟩ := hF.tb
          have hba := below_alloc w5 (.cells #[(.int .u64 0), (.string ⟨#[]⟩), (.slice none 0 0), (.slice none 0 0)] 32)
          have hown5 := own_beneath hI.own (via hF.bl hba)
          have hle5 : w2.heap.size ≤ (w5.alloc (.cells #[(.int .u64 0), (.string ⟨#[]⟩), (.slice none 0 0), (.slice none 0 0)] 32)).heap.size := Nat.le_trans hI.sz (via hF.bl hba).size
          have htv6 := htv5.below hba
          have hvne : (Value.slice ao i co).ownBlock ≠ some V := fun e => by have := (own_blk hI.own e).2; have := hI.vr; omega
          have hn1000 : i < 1000 := by have := typeL_len hr t; rw [Htl.out, ← HN.out] at this; omega
          go_wp2_with fail
          refine wp_loop_rounds 1 ?_
          rw [rounds_succ]
          go_wp2_with (at_builtin; go_must (refine wpList_append_own_at _ rfl (.tmp 125) (.tmp 127) 30 rfl w2.heap.size 32 iT _ 4 72 Tryd.underlying30 hiT hzT hsT hbT rfl (by omega) _ i _ rfl hown5 ⟨w5.heap.size, 0, none⟩ 1 1 [(.int .u64 0), (.string ⟨#[]⟩), (.slice none 0 0), (.slice none 0 0)] rfl rfl (news_at _ _ rfl #[(.int .u64 0), (.string ⟨#[]⟩), (.slice none 0 0), (.slice none 0 0)] 32) (by simp [Value.oneCell']) (by unfold maxLen; omega) (by omega) hle5 ?_); intro v7 w7 ho7 hg7 _ hat7; have ⟨_, _, _, _, y3, yf⟩ := htv6.grown hg7 hvne; have yf3 := yf 3; obtain ⟨a7, c7, rfl⟩ := own_shape ho7; have hrel2 := hid (show OutRel s D t lv0 ls0 w w2 w.heap.size V N (.slice av 0 cv) (.int .i64 (i + 1 : Nat)) _ from ⟨i + 1, _, _, _, _, by omega, rfl, hI.next hF ho7 hg7 hat7, hsuf⟩))
          go_roundw
          case rel => exact hrel2.out
          case measure => simp [intOf] <;> omega
      · obtain ⟨mz, rfl⟩ : ∃ mz, m = mz + 1 := ⟨m - 1, by omega⟩
        obtain ⟨z, l3, rfl⟩ : ∃ z l3, ls2 = z :: l3 := by
          cases ls2 with
          | nil => have := Hm.out; simp at this
          | cons z l3 => exact ⟨z, l3, rfl⟩
        obtain ⟨bz, oz, rfl, hbz, hcz⟩ := hrc (by omega)
        have hz0 : wr.cell? ⟨bz, oz, none⟩ = some (.int .i64 z) := by simpa using hcz 0 (by omega)
        obtain ⟨hzl, hzh⟩ := Hb.out z (hls0 ▸ hsuf.2 z (by simp))
        have hsufz := hsuf.trans (Suf.tail bz oz mz cv z l3 (by have := Hm.out; simpa using this))
        obtain ⟨az, haz⟩ : ∃ az, (if cv = 1 then some (⟨bz, oz, none⟩ : Addr) else some ⟨bz, oz + 1, none⟩) = az := ⟨_, rfl⟩
        rw [haz] at hsufz
        have hmp : (0 : Int) < (mz : Int) + 1 := by omega
        have hcv1' : (1 : Int) ≤ (cv : Int) := by omega
        clear hcz hrc hrow2 hsuf hm0
        have hK0 := hK
        have ⟨_, k0, k1, k2, k3, kf⟩ := hK
        have kf0 := kf 0
        have kf1 := kf 1
        have kf2 := kf 2
        have kf3 := kf 3
        rcases (show kd = 1 ∨ kd = 2 ∨ kd = 3 ∨ kd = 4 ∨ kd = 5 by omega) with rfl | rfl | rfl | rfl | rfl
        · skip
          obtain ⟨w5, hw5⟩ : ∃ w5, wk.setCell ⟨wf.heap.size, 0, none⟩ (U (BitVec.ofInt 64 z)) = w5 := ⟨_, rfl⟩
          have hF : FieldI s D t i wr w5 wf.heap.size ⟨(BitVec.ofInt 64 z), ⟨#[]⟩, [], []⟩ (U (BitVec.ofInt 64 z)) (.string ⟨#[]⟩) (.slice none 0 0) (.slice none 0 0) :=
            hw5 ▸ ⟨hwrk.setCell (by show wr.heap.size ≤ wf.heap.size; omega) _, hK0.set0 _, fun W hW => RdN.mk' (t := ⟨(BitVec.ofInt 64 z), ⟨#[]⟩, [], []⟩) ⟨by show (⟨#[]⟩ : ByteArray).size ≤ 1000; decide, by simp, by simp⟩ (Row.nil W 1) (Kids.nil _ W), by
              refine ⟨?_, ⟨by show (⟨#[]⟩ : ByteArray).size ≤ 15; decide, by simp, by simp⟩, fun x hx => by simp at hx⟩
              rw [Hfp.out]; rfl⟩
          have htv5 := hI.tv.below hF.bl
          have ⟨_, v0, v1, v2, v3, vf⟩ := htv5
          have ⟨_, q0, q1, q2, q3, _⟩ := hF.tb
          have hba := below_alloc w5 (.cells #[(U (BitVec.ofInt 64 z)), (.string ⟨#[]⟩), (.slice none 0 0), (.slice none 0 0)] 32)
          have hown5 := own_beneath hI.own (via hF.bl hba)
          have hle5 : w2.heap.size ≤ (w5.alloc (.cells #[(U (BitVec.ofInt 64 z)), (.string ⟨#[]⟩), (.slice none 0 0), (.slice none 0 0)] 32)).heap.size := Nat.le_trans hI.sz (via hF.bl hba).size
          have htv6 := htv5.below hba
          have hvne : (Value.slice ao i co).ownBlock ≠ some V := fun e => by have := (own_blk hI.own e).2; have := hI.vr; omega
          have hn1000 : i < 1000 := by have := typeL_len hr t; rw [Htl.out, ← HN.out] at this; omega
          go_wp2_with (at_builtin; go_must (refine wpList_append_own_at _ rfl (.tmp 125) (.tmp 127) 30 rfl w2.heap.size 32 iT _ 4 72 Tryd.underlying30 hiT hzT hsT hbT rfl (by omega) _ i _ rfl hown5 ⟨w5.heap.size, 0, none⟩ 1 1 [(U (BitVec.ofInt 64 z)), (.string ⟨#[]⟩), (.slice none 0 0), (.slice none 0 0)] rfl rfl (news_at _ _ rfl #[(U (BitVec.ofInt 64 z)), (.string ⟨#[]⟩), (.slice none 0 0), (.slice none 0 0)] 32) (by simp [Value.oneCell', U]) (by unfold maxLen; omega) (by omega) hle5 ?_); intro v7 w7 ho7 hg7 _ hat7; have ⟨_, _, _, _, y3, yf⟩ := htv6.grown hg7 hvne; have yf3 := yf 3; obtain ⟨a7, c7, rfl⟩ := own_shape ho7; have hrel2 := hid (show OutRel s D t lv0 ls0 w w2 w.heap.size V N (.slice az mz (cv - 1)) (.int .i64 (i + 1 : Nat)) _ from ⟨i + 1, _, _, _, _, by omega, rfl, hI.next hF ho7 hg7 hat7, hsufz⟩))
          go_roundw
          case rel => exact hrel2.out
          case measure => simp [intOf] <;> omega
        · skip
          obtain ⟨wi, hwi⟩ : ∃ wi, wi = wr := ⟨_, rfl⟩
          subst hwi
          obtain ⟨q, hq⟩ : ∃ q : Nat, z % 16 = (q : Int) := ⟨(z % 16).toNat, by omega⟩
          have hq16 : q < 16 := by omega
          obtain ⟨B, hB⟩ : ∃ B, wf.heap.size = B := ⟨_, rfl⟩
          have hBi : wi.heap.size ≤ B := by omega
          rw [hB] at hK0 k0 k1 k2 k3 kf0 kf1 kf2 kf3
          have hrel0 := hid (show BytesRel wi B q (.int .i64 0) wk from ⟨0, ⟨#[]⟩, Nat.zero_le _, rfl, rfl, hwrk, hK0⟩)
          clear hzk hK0 hK kf hwrk
          go_wp2_with fail
          clear k0 k1 k2 k3 kf0 kf1 kf2 kf3 hwf hwk
          go_loopw [15] (fun iv wr => BytesRel wi B q iv wr) (fun iv _ => q - (intOf iv).toNat)
          case atStart => exact hrel0.out
          case round =>
            clear hrel0
            obtain ⟨j, b, hj, rfl, hbj, hbl, hT⟩ := hrel
            have ⟨_, k0, k1, k2, k3, kf⟩ := hT
            have kf1 := kf 1
            by_cases hjq : j < q
            · go_wp2_with fail
              all_goals exact ⟨⟨j + 1, _, by omega, rfl, by rw [size_one, hbj], (hbl.setCell (p := ⟨B, 1, none⟩) hBi _).trans ((below_alloc _ _).mono (by have := hbl.size; simpa [World.setCell] using this)), (hT.set1 _).below (below_alloc _ _)⟩, by simp [intOf] <;> omega⟩
            · obtain ⟨w5, hw5⟩ : ∃ w5, w5 = wr := ⟨_, rfl⟩
              obtain rfl : j = q := by omega
              have hF : FieldI s D t i wi w5 B ⟨0#64, b, [], []⟩ (.int .u64 0) (.string b) (.slice none 0 0) (.slice none 0 0) :=
                hw5 ▸ ⟨hbl, hT, fun W hW => RdN.mk' (t := ⟨0#64, b, [], []⟩) ⟨by show b.size ≤ 1000; omega, by simp, by simp⟩ (Row.nil W 1) (Kids.nil _ W), by
                  refine ⟨?_, ⟨by show b.size ≤ 15; omega, by simp, by simp⟩, fun x hx => by simp at hx⟩
                  rw [Hfp.out]; simp [hasB, hasV]; omega⟩
              subst hw5
              clear k0 k1 k2 k3 kf kf1
              have htv5 := hI.tv.below hF.bl
              have ⟨_, v0, v1, v2, v3, vf⟩ := htv5
              have ⟨_, q0, q1, q2, q3, _⟩ := hF.tb
              have hba := below_alloc w5 (.cells #[(.int .u64 0), (.string b), (.slice none 0 0), (.slice none 0 0)] 32)
              have hown5 := own_beneath hI.own (via hF.bl hba)
              have hle5 : w2.heap.size ≤ (w5.alloc (.cells #[(.int .u64 0), (.string b), (.slice none 0 0), (.slice none 0 0)] 32)).heap.size := Nat.le_trans hI.sz (via hF.bl hba).size
              have htv6 := htv5.below hba
              have hvne : (Value.slice ao i co).ownBlock ≠ some V := fun e => by have := (own_blk hI.own e).2; have := hI.vr; omega
              have hn1000 : i < 1000 := by have := typeL_len hr t; rw [Htl.out, ← HN.out] at this; omega
              go_wp2_with (at_builtin; go_must (refine wpList_append_own_at _ rfl (.tmp 125) (.tmp 127) 30 rfl w2.heap.size 32 iT _ 4 72 Tryd.underlying30 hiT hzT hsT hbT rfl (by omega) _ i _ rfl hown5 ⟨w5.heap.size, 0, none⟩ 1 1 [(.int .u64 0), (.string b), (.slice none 0 0), (.slice none 0 0)] rfl rfl (news_at _ _ rfl #[(.int .u64 0), (.string b), (.slice none 0 0), (.slice none 0 0)] 32) (by simp [Value.oneCell']) (by unfold maxLen; omega) (by omega) hle5 ?_); intro v7 w7 ho7 hg7 _ hat7; have ⟨_, _, _, _, y3, yf⟩ := htv6.grown hg7 hvne; have yf3 := yf 3; obtain ⟨a7, c7, rfl⟩ := own_shape ho7; have hrel2 := hid (show OutRel s D t lv0 ls0 w w2 w.heap.size V N (.slice az mz (cv - 1)) (.int .i64 (i + 1 : Nat)) _ from ⟨i + 1, _, _, _, _, by omega, rfl, hI.next hF ho7 hg7 hat7, hsufz⟩))
              go_roundw
              case rel => exact hrel2.out
              case measure => simp [intOf] <;> omega
        · skip
          obtain ⟨wi, hwi⟩ : ∃ wi, wi = wr := ⟨_, rfl⟩
          subst hwi
          obtain ⟨q, hq⟩ : ∃ q : Nat, z % 4 = (q : Int) := ⟨(z % 4).toNat, by omega⟩
          have hq4 : q < 4 := by omega
          obtain ⟨B, hB⟩ : ∃ B, wf.heap.size = B := ⟨_, rfl⟩
          have hBi : wi.heap.size ≤ B := by omega
          rw [hB] at hK0 k0 k1 k2 k3 kf0 kf1 kf2 kf3
          have hBk : B < wk.heap.size := by omega
          have hrel0 := hid (show NumsRel wi wk B q (.int .i64 0) wk from ⟨0, [], .slice none 0 0, Nat.zero_le _, rfl, rfl, hwrk, Nat.le_refl _, hK0, own_nil _ _ _ _⟩)
          clear hzk hK0 hK kf hwrk
          go_wp2_with fail
          clear k0 k1 k2 k3 kf0 kf1 kf2 kf3 hwf hwk
          go_loopw [16] (fun iv wr => NumsRel wi wk B q iv wr) (fun iv _ => q - (intOf iv).toNat)
          case atStart => exact hrel0.out
          case round =>
            clear hrel0
            obtain ⟨j, l2, kn, hj, rfl, hlj, hbl, hsz, hT, hown⟩ := hrel
            obtain ⟨an, cn, rfl⟩ := own_shape hown
            have ⟨_, k0, k1, k2, k3, kf⟩ := hT
            have kf2 := kf 2
            by_cases hjq : j < q
            · have hjq2 : (j : Int) < (q : Int) := by omega
              obtain ⟨y, hy⟩ : ∃ y, BitVec.ofInt 64 (wrap64 (wrap64 (z * (j : Int)) + (j : Int))) = y := ⟨_, rfl⟩
              have hba := below_alloc wr (.cells #[U y] 28)
              have hown6 := own_beneath hown hba
              have hT6 := hT.below hba
              have hbl6 := hbl.trans (hba.mono hbl.size)
              have hsz6 : wk.heap.size ≤ (wr.alloc (.cells #[U y] 28)).heap.size := Nat.le_trans hsz hba.size
              have hne : (Value.slice an j cn).ownBlock ≠ some B := fun e => by have := (own_blk hown e).2; omega
              go_wp2_with (at_builtin; go_must (refine wpList_append_own _ rfl (.tmp 114) (.tmp 121) 29 rfl wk.heap.size 28 iU _ 1 8 Tryd.underlying29 hiU hzU hsU hbU rfl (by omega) _ j _ rfl hown6 ⟨wr.heap.size, 0, none⟩ 1 1 [U y] rfl rfl (news_at _ _ rfl #[U y] 28) (by simp [Value.oneCell', U]) (by unfold maxLen; omega) (by omega) hsz6 ?_); intro v7 w7 ho7 hg7 _; have hT7 := hT6.grown hg7 hne; have ⟨_, _, _, y2, _, yf⟩ := hT7; have yf2 := yf 2; obtain ⟨a7, c7, rfl⟩ := own_shape ho7; have hrel2 := hid (show NumsRel wi wk B q (.int .i64 (j + 1 : Nat)) _ from ⟨j + 1, l2 ++ [y], _, by omega, rfl, by simp [hlj], (hbl6.grown hg7 (Nat.le_trans hbl.size hba.size) (fun g e => by have := (own_blk hown6 e).2; omega)).setCell (p := ⟨B, 2, none⟩) hBi _, by have := hg7.size; simp [World.setCell]; omega, hT7.set2 _, by rw [List.map_append]; exact own_keep ho7 fun g e => Below.heap_setCell _ _ _ _ (by have := (own_blk ho7 e).2; show g ≠ B; omega)⟩))
              all_goals exact ⟨hrel2.out, by simp [intOf] <;> omega⟩
            · obtain ⟨w5, hw5⟩ : ∃ w5, w5 = wr := ⟨_, rfl⟩
              obtain rfl : j = q := by omega
              have hF : FieldI s D t i wi w5 B ⟨0#64, ⟨#[]⟩, l2, []⟩ (.int .u64 0) (.string ⟨#[]⟩) (.slice an j cn) (.slice none 0 0) :=
                hw5 ▸ ⟨hbl, hT, fun W hW => RdN.mk' (t := ⟨0#64, ⟨#[]⟩, l2, []⟩) ⟨by show (⟨#[]⟩ : ByteArray).size ≤ 1000; decide, by show l2.length ≤ 1000; omega, by simp⟩ (hlj ▸ kw_own (G := fun b => b < wi.heap.size) hown (fun g e => by have := (own_blk hown e).2; show ¬ g < wi.heap.size; omega) W hW) (Kids.nil _ W), by
                  refine ⟨?_, ⟨by show (⟨#[]⟩ : ByteArray).size ≤ 15; decide, by show l2.length ≤ 3; omega, by simp⟩, fun x hx => by simp at hx⟩
                  rw [Hfp.out]; simp [hasB, hasV]; exact ⟨rfl, by omega⟩⟩
              subst hw5
              clear k0 k1 k2 k3 kf kf2
              have htv5 := hI.tv.below hF.bl
              have ⟨_, v0, v1, v2, v3, vf⟩ := htv5
              have ⟨_, q0, q1, q2, q3, _⟩ := hF.tb
              have hba := below_alloc w5 (.cells #[(.int .u64 0), (.string ⟨#[]⟩), (.slice an j cn), (.slice none 0 0)] 32)
              have hown5 := own_beneath hI.own (via hF.bl hba)
              have hle5 : w2.heap.size ≤ (w5.alloc (.cells #[(.int .u64 0), (.string ⟨#[]⟩), (.slice an j cn), (.slice none 0 0)] 32)).heap.size := Nat.le_trans hI.sz (via hF.bl hba).size
              have htv6 := htv5.below hba
              have hvne : (Value.slice ao i co).ownBlock ≠ some V := fun e => by have := (own_blk hI.own e).2; have := hI.vr; omega
              have hn1000 : i < 1000 := by have := typeL_len hr t; rw [Htl.out, ← HN.out] at this; omega
              go_wp2_with (at_builtin; go_must (refine wpList_append_own_at _ rfl (.tmp 125) (.tmp 127) 30 rfl w2.heap.size 32 iT _ 4 72 Tryd.underlying30 hiT hzT hsT hbT rfl (by omega) _ i _ rfl hown5 ⟨w5.heap.size, 0, none⟩ 1 1 [(.int .u64 0), (.string ⟨#[]⟩), (.slice an j cn), (.slice none 0 0)] rfl rfl (news_at _ _ rfl #[(.int .u64 0), (.string ⟨#[]⟩), (.slice an j cn), (.slice none 0 0)] 32) (by simp [Value.oneCell']) (by unfold maxLen; omega) (by omega) hle5 ?_); intro v7 w7 ho7 hg7 _ hat7; have ⟨_, _, _, _, y3, yf⟩ := htv6.grown hg7 hvne; have yf3 := yf 3; obtain ⟨a7, c7, rfl⟩ := own_shape ho7; have hrel2 := hid (show OutRel s D t lv0 ls0 w w2 w.heap.size V N (.slice az mz (cv - 1)) (.int .i64 (i + 1 : Nat)) _ from ⟨i + 1, _, _, _, _, by omega, rfl, hI.next hF ho7 hg7 hat7, hsufz⟩))
              go_roundw
              case rel => exact hrel2.out
              case measure => simp [intOf] <;> omega
        · skip
          obtain ⟨wi, hwi⟩ : ∃ wi, wi = wr := ⟨_, rfl⟩
          subst hwi
          obtain ⟨q, hq⟩ : ∃ q : Nat, z % 2 = (q : Int) := ⟨(z % 2).toNat, by omega⟩
          have hq4 : q < 2 := by omega
          obtain ⟨B, hB⟩ : ∃ B, wf.heap.size = B := ⟨_, rfl⟩
          have hBi : wi.heap.size < B := by omega
          rw [hB] at hK0 k0 k1 k2 k3 kf0 kf1 kf2 kf3
          have hBk : B < wk.heap.size := by omega
          have hrel0 := hid (show KidsRel s D tn lv0 ls0 wi wk B q (.slice az mz (cv - 1)) (.int .i64 0) wk from ⟨0, [], [], .slice none 0 0, _, Nat.zero_le _, rfl, ⟨rfl, hwrk, Nat.le_refl _, fun _ _ _ => rfl, hK0, own_nil _ _ _ _, KK.nil _ _ _, fun x hx => by simp at hx, Nat.le_of_lt hBi, hBk⟩, hsufz⟩)
          clear hzk hK0 hK kf hwrk
          go_wp2_with fail
          clear k0 k1 k2 k3 kf0 kf1 kf2 kf3 hwf hwk hsufz haz
          go_loopw [2, 18] (fun lv iv wr => KidsRel s D tn lv0 ls0 wi wk B q lv iv wr) (fun _ iv _ => q - (intOf iv).toNat)
          case atStart => exact hrel0.out
          case round =>
            clear hrel0
            obtain ⟨j, ks2, xs2, kv, ls4, hj, rfl, hin, hsufk⟩ := hrel
            obtain ⟨ak, ck, rfl⟩ := own_shape hin.own
            have ⟨_, k0, k1, k2, k3, kf⟩ := hin.tb
            have kf3 := kf 3
            have y1 := (World.cell?_of_block (a := ⟨wi.heap.size, 1, none⟩) (hin.bk wi.heap.size (by omega) (by omega))).trans gk1
            by_cases hjq : j < q
            · have hjq2 : (j : Int) < (q : Int) := by omega
              by_cases hE1 : 1 < E
              · have hE2 : (1 : Int) < (E : Int) := by omega
                obtain ⟨D0, rfl⟩ : ∃ D0, D = D0 + 1 := ⟨D - 1, by have := HE.out; omega⟩
                obtain ⟨E0, hE0⟩ : ∃ E0 : Nat, E0 = D0 + 1 := ⟨_, rfl⟩
                have hE65 : E ≤ 65 := by have := HE.out; omega
                have hE064 : E0 ≤ 64 := by omega
                have hED : (E : Int) - 1 = (E0 : Int) := by have := HE.out; omega
                have hbw9 := hI.bl.trans (hin.bl.mono hI.bl.size)
                have hcall := hid (Hih.out D0 E0 rfl hE0 tn (by rw [← Hn.out]; omega) _ _ wr (Hs.out _ hbw9) ((hsufk.1 w (hlv0 ▸ hls0 ▸ Hrow.out)).below hbw9 (Nat.le_refl _)) (fun x hx => Hb.out x (hls0 ▸ hsufk.2 x hx)))
                clear hbw9 hE0
                go_wp2_with fail
                ((refine hcall.out.mono ?_); rintro r5 w5 ⟨cs, X, lv5, ls5, rfl, hb5, hrd, hft, hsuf5⟩)
                obtain ⟨a2, p2, a3, p3, rfl, _⟩ := RdN.open hrd.now
                clear hcall
                have Hrd := hid (And.intro hrd hft)
                clear hrd hft y1 k0 k1 k2 k3 kf kf3 hED hE1 hE2 hE65 hE064
                have hT5 := hin.tb.below hb5
                have hba1 := below_alloc w5 (.cells #[U (Node.num X), .string (Node.bytes X), .slice a2 (Node.nums X).length p2, .slice a3 (Node.kids X).length p3] 32)
                have hba2 := below_alloc (w5.alloc (.cells #[U (Node.num X), .string (Node.bytes X), .slice a2 (Node.nums X).length p2, .slice a3 (Node.kids X).length p3] 32)) (.cells #[U (Node.num X), .string (Node.bytes X), .slice a2 (Node.nums X).length p2, .slice a3 (Node.kids X).length p3] 32)
                have h6 := via hba1 hba2
                have hT51 := hT5.below hba1
                have ⟨_, _, _, _, k3, _⟩ := hT51
                have hT6 := hT5.below h6
                have hown6 := own_beneath hin.own (via hb5 h6)
                have hsz6 : wk.heap.size ≤ ((w5.alloc (.cells #[U (Node.num X), .string (Node.bytes X), .slice a2 (Node.nums X).length p2, .slice a3 (Node.kids X).length p3] 32)).alloc (.cells #[U (Node.num X), .string (Node.bytes X), .slice a2 (Node.nums X).length p2, .slice a3 (Node.kids X).length p3] 32)).heap.size := Nat.le_trans hin.sz (via hb5 h6).size
                have hne : (Value.slice ak j ck).ownBlock ≠ some B := fun e => by have := (own_blk hin.own e).2; omega
                go_wp2_with (at_builtin; go_must (refine wpList_append_own_at _ rfl (.tmp 76) (.tmp 78) 30 rfl wk.heap.size 32 iT _ 4 72 Tryd.underlying30 hiT hzT hsT hbT rfl (by omega) _ j _ rfl hown6 ⟨w5.heap.size + 1, 0, none⟩ 1 1 [U (Node.num X), .string (Node.bytes X), .slice a2 (Node.nums X).length p2, .slice a3 (Node.kids X).length p3] rfl rfl (news_at _ _ (by simp) #[U (Node.num X), .string (Node.bytes X), .slice a2 (Node.nums X).length p2, .slice a3 (Node.kids X).length p3] 32) (by simp [Value.oneCell', U]) (by unfold maxLen; omega) (by omega) hsz6 ?_); intro v7 w7 ho7 hg7 _ hat7; have ⟨_, _, _, _, y3, yf⟩ := hT6.grown hg7 hne; have yf3 := yf 3; obtain ⟨a7, c7, rfl⟩ := own_shape ho7; have hrel2 := hid (show KidsRel s (D0 + 1) tn lv0 ls0 wi wk B q lv5 (.int .i64 (j + 1 : Nat)) _ from ⟨j + 1, _, _, _, ls5, by omega, rfl, hin.next hb5 Hrd.out.1 Hrd.out.2 h6 ho7 hg7 hat7, hsufk.trans hsuf5⟩))
                all_goals exact ⟨hrel2.out, by simp [intOf] <;> omega⟩
              · have hE2 : (E : Int) ≤ 1 := by omega
                obtain ⟨w5, hw5⟩ : ∃ w5, w5 = wr := ⟨_, rfl⟩
                have hF : FieldI s D t i wi w5 B ⟨0#64, ⟨#[]⟩, [], ks2⟩ (.int .u64 0) (.string ⟨#[]⟩) (.slice none 0 0) (.slice ak j ck) :=
                  hw5 ▸ ⟨hin.bl, hin.tb, hin.read (by omega), by
                    have hkl := hin.kl
                    refine ⟨?_, ⟨by show (⟨#[]⟩ : ByteArray).size ≤ 15; decide, by simp, by show ks2.length ≤ 2; omega⟩, ?_⟩
                    · rw [Hfp.out]; simp [hasB, hasV]; exact ⟨rfl, by omega⟩
                    · rw [Hfp.out]; exact hin.fit⟩
                subst hw5
                clear k0 k1 k2 k3 kf kf3 y1 hin
                have htv5 := hI.tv.below hF.bl
                have ⟨_, v0, v1, v2, v3, vf⟩ := htv5
                have ⟨_, q0, q1, q2, q3, _⟩ := hF.tb
                have hba := below_alloc w5 (.cells #[(.int .u64 0), (.string ⟨#[]⟩), (.slice none 0 0), (.slice ak j ck)] 32)
                have hown5 := own_beneath hI.own (via hF.bl hba)
                have hle5 : w2.heap.size ≤ (w5.alloc (.cells #[(.int .u64 0), (.string ⟨#[]⟩), (.slice none 0 0), (.slice ak j ck)] 32)).heap.size := Nat.le_trans hI.sz (via hF.bl hba).size
                have htv6 := htv5.below hba
                have hvne : (Value.slice ao i co).ownBlock ≠ some V := fun e => by have := (own_blk hI.own e).2; have := hI.vr; omega
                have hn1000 : i < 1000 := by have := typeL_len hr t; rw [Htl.out, ← HN.out] at this; omega
                go_wp2_with (at_builtin; go_must (refine wpList_append_own_at _ rfl (.tmp 125) (.tmp 127) 30 rfl w2.heap.size 32 iT _ 4 72 Tryd.underlying30 hiT hzT hsT hbT rfl (by omega) _ i _ rfl hown5 ⟨w5.heap.size, 0, none⟩ 1 1 [(.int .u64 0), (.string ⟨#[]⟩), (.slice none 0 0), (.slice ak j ck)] rfl rfl (news_at _ _ rfl #[(.int .u64 0), (.string ⟨#[]⟩), (.slice none 0 0), (.slice ak j ck)] 32) (by simp [Value.oneCell']) (by unfold maxLen; omega) (by omega) hle5 ?_); intro v7 w7 ho7 hg7 _ hat7; have ⟨_, _, _, _, y3, yf⟩ := htv6.grown hg7 hvne; have yf3 := yf 3; obtain ⟨a7, c7, rfl⟩ := own_shape ho7; have hrel2 := hid (show OutRel s D t lv0 ls0 w w2 w.heap.size V N u2 (.int .i64 (i + 1 : Nat)) _ from ⟨i + 1, _, _, _, _, by omega, rfl, hI.next hF ho7 hg7 hat7, hsufk⟩))
                go_roundw
                case rel => exact hrel2.out
                case measure => simp [intOf] <;> omega
            · obtain rfl : j = q := by omega
              obtain ⟨w5, hw5⟩ : ∃ w5, w5 = wr := ⟨_, rfl⟩
              have hF : FieldI s D t i wi w5 B ⟨0#64, ⟨#[]⟩, [], ks2⟩ (.int .u64 0) (.string ⟨#[]⟩) (.slice none 0 0) (.slice ak j ck) :=
                hw5 ▸ ⟨hin.bl, hin.tb, hin.read (by omega), by
                  have hkl := hin.kl
                  refine ⟨?_, ⟨by show (⟨#[]⟩ : ByteArray).size ≤ 15; decide, by simp, by show ks2.length ≤ 2; omega⟩, ?_⟩
                  · rw [Hfp.out]; simp [hasB, hasV]; exact ⟨rfl, by omega⟩
                  · rw [Hfp.out]; exact hin.fit⟩
              subst hw5
              clear k0 k1 k2 k3 kf kf3 y1 hin
              have htv5 := hI.tv.below hF.bl
              have ⟨_, v0, v1, v2, v3, vf⟩ := htv5
              have ⟨_, q0, q1, q2, q3, _⟩ := hF.tb
              have hba := below_alloc w5 (.cells #[(.int .u64 0), (.string ⟨#[]⟩), (.slice none 0 0), (.slice ak j ck)] 32)
              have hown5 := own_beneath hI.own (via hF.bl hba)
              have hle5 : w2.heap.size ≤ (w5.alloc (.cells #[(.int .u64 0), (.string ⟨#[]⟩), (.slice none 0 0), (.slice ak j ck)] 32)).heap.size := Nat.le_trans hI.sz (via hF.bl hba).size
              have htv6 := htv5.below hba
              have hvne : (Value.slice ao i co).ownBlock ≠ some V := fun e => by have := (own_blk hI.own e).2; have := hI.vr; omega
              have hn1000 : i < 1000 := by have := typeL_len hr t; rw [Htl.out, ← HN.out] at this; omega
              go_wp2_with (at_builtin; go_must (refine wpList_append_own_at _ rfl (.tmp 125) (.tmp 127) 30 rfl w2.heap.size 32 iT _ 4 72 Tryd.underlying30 hiT hzT hsT hbT rfl (by omega) _ i _ rfl hown5 ⟨w5.heap.size, 0, none⟩ 1 1 [(.int .u64 0), (.string ⟨#[]⟩), (.slice none 0 0), (.slice ak j ck)] rfl rfl (news_at _ _ rfl #[(.int .u64 0), (.string ⟨#[]⟩), (.slice none 0 0), (.slice ak j ck)] 32) (by simp [Value.oneCell']) (by unfold maxLen; omega) (by omega) hle5 ?_); intro v7 w7 ho7 hg7 _ hat7; have ⟨_, _, _, _, y3, yf⟩ := htv6.grown hg7 hvne; have yf3 := yf 3; obtain ⟨a7, c7, rfl⟩ := own_shape ho7; have hrel2 := hid (show OutRel s D t lv0 ls0 w w2 w.heap.size V N u2 (.int .i64 (i + 1 : Nat)) _ from ⟨i + 1, _, _, _, _, by omega, rfl, hI.next hF ho7 hg7 hat7, hsufk⟩))
              go_roundw
              case rel => exact hrel2.out
              case measure => simp [intOf] <;> omega
        · skip
          obtain ⟨wi, hwi⟩ : ∃ wi, wi = wr := ⟨_, rfl⟩
          subst hwi
          obtain ⟨q, hq⟩ : ∃ q : Nat, z % 4 % 3 = (q : Int) := ⟨(z % 4 % 3).toNat, by omega⟩
          have hq4 : q < 3 := by omega
          obtain ⟨B, hB⟩ : ∃ B, wf.heap.size = B := ⟨_, rfl⟩
          have hBi : wi.heap.size < B := by omega
          rw [hB] at hK0 k0 k1 k2 k3 kf0 kf1 kf2 kf3
          have hBk : B < wk.heap.size := by omega
          have hrel0 := hid (show KidsRel s D tn lv0 ls0 wi wk B q (.slice az mz (cv - 1)) (.int .i64 0) wk from ⟨0, [], [], .slice none 0 0, _, Nat.zero_le _, rfl, ⟨rfl, hwrk, Nat.le_refl _, fun _ _ _ => rfl, hK0, own_nil _ _ _ _, KK.nil _ _ _, fun x hx => by simp at hx, Nat.le_of_lt hBi, hBk⟩, hsufz⟩)
          clear hzk hK0 hK kf hwrk
          go_wp2_with fail
          clear k0 k1 k2 k3 kf0 kf1 kf2 kf3 hwf hwk hsufz haz
          go_loopw [2, 18] (fun lv iv wr => KidsRel s D tn lv0 ls0 wi wk B q lv iv wr) (fun _ iv _ => q - (intOf iv).toNat)
          case atStart => exact hrel0.out
          case round =>
            clear hrel0
            obtain ⟨j, ks2, xs2, kv, ls4, hj, rfl, hin, hsufk⟩ := hrel
            obtain ⟨ak, ck, rfl⟩ := own_shape hin.own
            have ⟨_, k0, k1, k2, k3, kf⟩ := hin.tb
            have kf3 := kf 3
            have y1 := (World.cell?_of_block (a := ⟨wi.heap.size, 1, none⟩) (hin.bk wi.heap.size (by omega) (by omega))).trans gk1
            by_cases hjq : j < q
            · have hjq2 : (j : Int) < (q : Int) := by omega
              by_cases hE1 : 1 < E
              · have hE2 : (1 : Int) < (E : Int) := by omega
                obtain ⟨D0, rfl⟩ : ∃ D0, D = D0 + 1 := ⟨D - 1, by have := HE.out; omega⟩
                obtain ⟨E0, hE0⟩ : ∃ E0 : Nat, E0 = D0 + 1 := ⟨_, rfl⟩
                have hE65 : E ≤ 65 := by have := HE.out; omega
                have hE064 : E0 ≤ 64 := by omega
                have hED : (E : Int) - 1 = (E0 : Int) := by have := HE.out; omega
                have hbw9 := hI.bl.trans (hin.bl.mono hI.bl.size)
                have hcall := hid (Hih.out D0 E0 rfl hE0 tn (by rw [← Hn.out]; omega) _ _ wr (Hs.out _ hbw9) ((hsufk.1 w (hlv0 ▸ hls0 ▸ Hrow.out)).below hbw9 (Nat.le_refl _)) (fun x hx => Hb.out x (hls0 ▸ hsufk.2 x hx)))
                clear hbw9 hE0
                go_wp2_with fail
                ((refine hcall.out.mono ?_); rintro r5 w5 ⟨cs, X, lv5, ls5, rfl, hb5, hrd, hft, hsuf5⟩)
                obtain ⟨a2, p2, a3, p3, rfl, _⟩ := RdN.open hrd.now
                clear hcall
                have Hrd := hid (And.intro hrd hft)
                clear hrd hft y1 k0 k1 k2 k3 kf kf3 hED hE1 hE2 hE65 hE064
                have hT5 := hin.tb.below hb5
                have hba1 := below_alloc w5 (.cells #[U (Node.num X), .string (Node.bytes X), .slice a2 (Node.nums X).length p2, .slice a3 (Node.kids X).length p3] 32)
                have hba2 := below_alloc (w5.alloc (.cells #[U (Node.num X), .string (Node.bytes X), .slice a2 (Node.nums X).length p2, .slice a3 (Node.kids X).length p3] 32)) (.cells #[U (Node.num X), .string (Node.bytes X), .slice a2 (Node.nums X).length p2, .slice a3 (Node.kids X).length p3] 32)
                have h6 := via hba1 hba2
                have hT51 := hT5.below hba1
                have ⟨_, _, _, _, k3, _⟩ := hT51
                have hT6 := hT5.below h6
                have hown6 := own_beneath hin.own (via hb5 h6)
                have hsz6 : wk.heap.size ≤ ((w5.alloc (.cells #[U (Node.num X), .string (Node.bytes X), .slice a2 (Node.nums X).length p2, .slice a3 (Node.kids X).length p3] 32)).alloc (.cells #[U (Node.num X), .string (Node.bytes X), .slice a2 (Node.nums X).length p2, .slice a3 (Node.kids X).length p3] 32)).heap.size := Nat.le_trans hin.sz (via hb5 h6).size
                have hne : (Value.slice ak j ck).ownBlock ≠ some B := fun e => by have := (own_blk hin.own e).2; omega
                go_wp2_with (at_builtin; go_must (refine wpList_append_own_at _ rfl (.tmp 76) (.tmp 78) 30 rfl wk.heap.size 32 iT _ 4 72 Tryd.underlying30 hiT hzT hsT hbT rfl (by omega) _ j _ rfl hown6 ⟨w5.heap.size + 1, 0, none⟩ 1 1 [U (Node.num X), .string (Node.bytes X), .slice a2 (Node.nums X).length p2, .slice a3 (Node.kids X).length p3] rfl rfl (news_at _ _ (by simp) #[U (Node.num X), .string (Node.bytes X), .slice a2 (Node.nums X).length p2, .slice a3 (Node.kids X).length p3] 32) (by simp [Value.oneCell', U]) (by unfold maxLen; omega) (by omega) hsz6 ?_); intro v7 w7 ho7 hg7 _ hat7; have ⟨_, _, _, _, y3, yf⟩ := hT6.grown hg7 hne; have yf3 := yf 3; obtain ⟨a7, c7, rfl⟩ := own_shape ho7; have hrel2 := hid (show KidsRel s (D0 + 1) tn lv0 ls0 wi wk B q lv5 (.int .i64 (j + 1 : Nat)) _ from ⟨j + 1, _, _, _, ls5, by omega, rfl, hin.next hb5 Hrd.out.1 Hrd.out.2 h6 ho7 hg7 hat7, hsufk.trans hsuf5⟩))
                all_goals exact ⟨hrel2.out, by simp [intOf] <;> omega⟩
              · have hE2 : (E : Int) ≤ 1 := by omega
                obtain ⟨w5, hw5⟩ : ∃ w5, w5 = wr := ⟨_, rfl⟩
                have hF : FieldI s D t i wi w5 B ⟨0#64, ⟨#[]⟩, [], ks2⟩ (.int .u64 0) (.string ⟨#[]⟩) (.slice none 0 0) (.slice ak j ck) :=
                  hw5 ▸ ⟨hin.bl, hin.tb, hin.read (by omega), by
                    have hkl := hin.kl
                    refine ⟨?_, ⟨by show (⟨#[]⟩ : ByteArray).size ≤ 15; decide, by simp, by show ks2.length ≤ 2; omega⟩, ?_⟩
                    · rw [Hfp.out]; simp [hasB, hasV]; exact ⟨rfl, by omega⟩
                    · rw [Hfp.out]; exact hin.fit⟩
                subst hw5
                clear k0 k1 k2 k3 kf kf3 y1 hin
                have htv5 := hI.tv.below hF.bl
                have ⟨_, v0, v1, v2, v3, vf⟩ := htv5
                have ⟨_, q0, q1, q2, q3, _⟩ := hF.tb
                have hba := below_alloc w5 (.cells #[(.int .u64 0), (.string ⟨#[]⟩), (.slice none 0 0), (.slice ak j ck)] 32)
                have hown5 := own_beneath hI.own (via hF.bl hba)
                have hle5 : w2.heap.size ≤ (w5.alloc (.cells #[(.int .u64 0), (.string ⟨#[]⟩), (.slice none 0 0), (.slice ak j ck)] 32)).heap.size := Nat.le_trans hI.sz (via hF.bl hba).size
                have htv6 := htv5.below hba
                have hvne : (Value.slice ao i co).ownBlock ≠ some V := fun e => by have := (own_blk hI.own e).2; have := hI.vr; omega
                have hn1000 : i < 1000 := by have := typeL_len hr t; rw [Htl.out, ← HN.out] at this; omega
                go_wp2_with (at_builtin; go_must (refine wpList_append_own_at _ rfl (.tmp 125) (.tmp 127) 30 rfl w2.heap.size 32 iT _ 4 72 Tryd.underlying30 hiT hzT hsT hbT rfl (by omega) _ i _ rfl hown5 ⟨w5.heap.size, 0, none⟩ 1 1 [(.int .u64 0), (.string ⟨#[]⟩), (.slice none 0 0), (.slice ak j ck)] rfl rfl (news_at _ _ rfl #[(.int .u64 0), (.string ⟨#[]⟩), (.slice none 0 0), (.slice ak j ck)] 32) (by simp [Value.oneCell']) (by unfold maxLen; omega) (by omega) hle5 ?_); intro v7 w7 ho7 hg7 _ hat7; have ⟨_, _, _, _, y3, yf⟩ := htv6.grown hg7 hvne; have yf3 := yf 3; obtain ⟨a7, c7, rfl⟩ := own_shape ho7; have hrel2 := hid (show OutRel s D t lv0 ls0 w w2 w.heap.size V N u2 (.int .i64 (i + 1 : Nat)) _ from ⟨i + 1, _, _, _, _, by omega, rfl, hI.next hF ho7 hg7 hat7, hsufk⟩))
                go_roundw
                case rel => exact hrel2.out
                case measure => simp [intOf] <;> omega
            · obtain rfl : j = q := by omega
              obtain ⟨w5, hw5⟩ : ∃ w5, w5 = wr := ⟨_, rfl⟩
              have hF : FieldI s D t i wi w5 B ⟨0#64, ⟨#[]⟩, [], ks2⟩ (.int .u64 0) (.string ⟨#[]⟩) (.slice none 0 0) (.slice ak j ck) :=
                hw5 ▸ ⟨hin.bl, hin.tb, hin.read (by omega), by
                  have hkl := hin.kl
                  refine ⟨?_, ⟨by show (⟨#[]⟩ : ByteArray).size ≤ 15; decide, by simp, by show ks2.length ≤ 2; omega⟩, ?_⟩
                  · rw [Hfp.out]; simp [hasB, hasV]; exact ⟨rfl, by omega⟩
                  · rw [Hfp.out]; exact hin.fit⟩
              subst hw5
              clear k0 k1 k2 k3 kf kf3 y1 hin
              have htv5 := hI.tv.below hF.bl
              have ⟨_, v0, v1, v2, v3, vf⟩ := htv5
              have ⟨_, q0, q1, q2, q3, _⟩ := hF.tb
              have hba := below_alloc w5 (.cells #[(.int .u64 0), (.string ⟨#[]⟩), (.slice none 0 0), (.slice ak j ck)] 32)
              have hown5 := own_beneath hI.own (via hF.bl hba)
              have hle5 : w2.heap.size ≤ (w5.alloc (.cells #[(.int .u64 0), (.string ⟨#[]⟩), (.slice none 0 0), (.slice ak j ck)] 32)).heap.size := Nat.le_trans hI.sz (via hF.bl hba).size
              have htv6 := htv5.below hba
              have hvne : (Value.slice ao i co).ownBlock ≠ some V := fun e => by have := (own_blk hI.own e).2; have := hI.vr; omega
              have hn1000 : i < 1000 := by have := typeL_len hr t; rw [Htl.out, ← HN.out] at this; omega
              go_wp2_with (at_builtin; go_must (refine wpList_append_own_at _ rfl (.tmp 125) (.tmp 127) 30 rfl w2.heap.size 32 iT _ 4 72 Tryd.underlying30 hiT hzT hsT hbT rfl (by omega) _ i _ rfl hown5 ⟨w5.heap.size, 0, none⟩ 1 1 [(.int .u64 0), (.string ⟨#[]⟩), (.slice none 0 0), (.slice ak j ck)] rfl rfl (news_at _ _ rfl #[(.int .u64 0), (.string ⟨#[]⟩), (.slice none 0 0), (.slice ak j ck)] 32) (by simp [Value.oneCell']) (by unfold maxLen; omega) (by omega) hle5 ?_); intro v7 w7 ho7 hg7 _ hat7; have ⟨_, _, _, _, y3, yf⟩ := htv6.grown hg7 hvne; have yf3 := yf 3; obtain ⟨a7, c7, rfl⟩ := own_shape ho7; have hrel2 := hid (show OutRel s D t lv0 ls0 w w2 w.heap.size V N u2 (.int .i64 (i + 1 : Nat)) _ from ⟨i + 1, _, _, _, _, by omega, rfl, hI.next hF ho7 hg7 hat7, hsufk⟩))
              go_roundw
              case rel => exact hrel2.out
              case measure => simp [intOf] <;> omega
    · obtain rfl : i = N := by omega
      have ⟨vlt, v0, v1, v2, v3, vf⟩ := hI.tv
      have ⟨rlt, r0, r1, r2, r3, rf⟩ := hI.tr
      have f0 := rf 0
      have f1 := rf 1
      have f2 := rf 2
      have f3 := rf 3
      have hR9 := (((hI.tr.set0 (.int .u64 0)).set1 (.string ⟨#[]⟩)).set2 (.slice none 0 0)).set3 (.slice ao i co)
      have hk9 : ∀ b, b ≠ w.heap.size → ((((wr.setCell ⟨w.heap.size, 0, none⟩ (.int .u64 0)).setCell ⟨w.heap.size, 1, none⟩ (.string ⟨#[]⟩)).setCell ⟨w.heap.size, 2, none⟩ (.slice none 0 0)).setCell ⟨w.heap.size, 3, none⟩ (.slice ao i co)).heap[b]? = wr.heap[b]? := fun b hb => by
        rw [Below.heap_setCell _ _ _ _ hb, Below.heap_setCell _ _ _ _ hb, Below.heap_setCell _ _ _ _ hb, Below.heap_setCell _ _ _ _ hb]
      have hfin := hI.done (by rw [Htl.out]; exact HN.out) (by have := typeL_len hr t; rw [Htl.out, ← HN.out] at this; omega) hk9 (by simp [World.setCell])
      have hbl9 := (((hI.bl.setCell (p := ⟨w.heap.size, 0, none⟩) (Nat.le_refl _) (.int .u64 0)).setCell (p := ⟨w.heap.size, 1, none⟩) (Nat.le_refl _) (.string ⟨#[]⟩)).setCell (p := ⟨w.heap.size, 2, none⟩) (Nat.le_refl _) (.slice none 0 0)).setCell (p := ⟨w.heap.size, 3, none⟩) (Nat.le_refl _) (.slice ao i co)
      have Hfin := hid (And.intro hfin (And.intro hbl9 hsuf))
      clear rf vf hk9 hfin hbl9
      go_wp2_with fail
      clear r0 r1 r2 r3 f0 f1 f2 f3 v0 v1 v2 v3
      generalize (((wr.setCell ⟨w.heap.size, 0, none⟩ (.int .u64 0)).setCell ⟨w.heap.size, 1, none⟩ (.string ⟨#[]⟩)).setCell ⟨w.heap.size, 2, none⟩ (.slice none 0 0)).setCell ⟨w.heap.size, 3, none⟩ (.slice ao i co) = w9 at *
      have ⟨_, r0, r1, r2, r3, _⟩ := hR9
      (try simp only [Exit.inBlock, Exit.then])
      refine bodyPost_ret (by simp [results, Tryd.results48, go_sem, r0, r1, r2, r3]; try rfl) rfl ?_
      obtain ⟨⟨g1, g2⟩, g3, g4⟩ := Hfin.out
      subst hlv0 hls0
      exact ⟨_, _, _, _, rfl, g3, g1, g2, g4⟩

theorem madeT_any (s : Schema) (hr : rightB s = true) (sv : Value) (D : Nat) : ∀ E : Nat, D ≤ 64 → E = D + 1 → ∀ (t : Nat) (ht : t < s.length) (lv : Value) (ls : List Int) (w : World), Sch w sv s → Row w 1 lv ls.length (ls.map (Value.int .i64)) → (∀ z ∈ ls, -9223372036854775808 ≤ z ∧ z ≤ 9223372036854775807) →
    Calls Tryd.prog 48 #[sv, .int .i64 t, lv, .int .i64 E] w (MadeTP s D t lv ls w) := by
  induction D with
  | zero => exact fun E hD hE => madeT_step s hr sv 0 E hD hE (fun D0 E0 h => by omega)
  | succ D ihD => exact fun E hD hE => madeT_step s hr sv (D + 1) E hD hE (fun D0 E0 h h2 => by
      obtain rfl : D0 = D := by omega
      exact ihD E0 (by omega) h2)
end SMadeT

section SMadeT2
open Go.RowKit

def MadeMP (s : Schema) (D : Nat) (t : Nat) (w : World) (e : Ending) (w' : World) : Prop :=
  ∃ x0 x1 x2 x3 X, e = .returned (.agg #[x0, x1, x2, x3]) ∧ Below w.heap.size w w' ∧ KW (fun b => b < w.heap.size) w' (fun W => RdS (D + 1) W [x0, x1, x2, x3] X) ∧ FitT s (D + 1) t X

set_option maxRecDepth 100000 in
set_option maxHeartbeats 8000000 in
theorem madeM_any (s : Schema) (hr : rightB s = true) (sv : Value) (D E : Nat) (hD : D ≤ 64) (hE : E = D + 1) (t : Nat) (ht : t < s.length) (lv : Value) (ls : List Int) (w : World) (hs : Sch w sv s) (hrow : Row w 1 lv ls.length (ls.map (Value.int .i64)))
    (hb : ∀ z ∈ ls, -9223372036854775808 ≤ z ∧ z ≤ 9223372036854775807) :
    Calls Tryd.prog 26 #[sv, .int .i64 t, lv, .int .i64 E] w (MadeMP s D t w) := by
  obtain ⟨w1, hw1, hb1, hz1, hR⟩ := TB.make w (.int .u64 0) (.string ⟨#[]⟩) (.slice none 0 0) (.slice none 0 0) 32
  have hcall := hid (madeT_any s hr sv D E hD hE t ht lv ls w1 (hs.below hb1 (Nat.le_refl _)) (hrow.below hb1 (Nat.le_refl _)) hb)
  clear hs hrow hb hE
  go_enter Tryd.func26, Tryd.ntmps26
  go_wp2_with fail
  ((refine hcall.out.mono ?_); rintro r5 w5 ⟨cs, X, lv5, ls5, rfl, hb5, hrd, hft, _⟩)
  obtain ⟨a2, p2, a3, p3, rfl, _⟩ := RdN.open hrd.now
  clear hcall hw1
  have Hrd := hid (And.intro hrd hft)
  clear hrd hft
  have hR5 := hR.below hb5
  have ⟨_, k0, k1, k2, k3, kf⟩ := hR5
  have kf0 := kf 0
  have kf1 := kf 1
  have kf2 := kf 2
  have kf3 := kf 3
  obtain ⟨w6, hw6⟩ : ∃ w6, w6 = (((w5.setCell ⟨w.heap.size, 0, none⟩ (U (Node.num X))).setCell ⟨w.heap.size, 1, none⟩ (.string (Node.bytes X))).setCell ⟨w.heap.size, 2, none⟩ (.slice a2 (Node.nums X).length p2)).setCell ⟨w.heap.size, 3, none⟩ (.slice a3 (Node.kids X).length p3) := ⟨_, rfl⟩
  have hR6 : TB w6 w.heap.size (U (Node.num X)) (.string (Node.bytes X)) (.slice a2 (Node.nums X).length p2) (.slice a3 (Node.kids X).length p3) := by rw [hw6]; exact (((hR5.set0 _).set1 _).set2 _).set3 _
  have hb6 : Below w.heap.size w w6 := by
    rw [hw6]
    exact ((((via hb1 hb5).setCell (p := ⟨w.heap.size, 0, none⟩) (Nat.le_refl _) _).setCell (p := ⟨w.heap.size, 1, none⟩) (Nat.le_refl _) _).setCell (p := ⟨w.heap.size, 2, none⟩) (Nat.le_refl _) _).setCell (p := ⟨w.heap.size, 3, none⟩) (Nat.le_refl _) _
  have hs6 : w6.heap.size = w5.heap.size := by rw [hw6]; simp [World.setCell]
  have hk6 : ∀ b, b ≠ w.heap.size → w6.heap[b]? = w5.heap[b]? := fun b hb => by
    rw [hw6, Below.heap_setCell _ _ _ _ hb, Below.heap_setCell _ _ _ _ hb, Below.heap_setCell _ _ _ _ hb, Below.heap_setCell _ _ _ _ hb]
  have hA := below_alloc w6 (.cells #[U (Node.num X), .string (Node.bytes X), .slice a2 (Node.nums X).length p2, .slice a3 (Node.kids X).length p3] 32)
  have hR7 := hR6.below hA
  have hK : KW (fun b => b < w.heap.size) w6 (fun W => RdS (D + 1) W [U (Node.num X), .string (Node.bytes X), .slice a2 (Node.nums X).length p2, .slice a3 (Node.kids X).length p3] X) :=
    Hrd.out.1.step (by omega) fun b hb hg => ⟨fun e => hg (by show b < w1.heap.size; omega), hk6 b fun e => hg (by show b < w1.heap.size; omega)⟩
  have Hfin := hid (And.intro (via hb6 hA) (And.intro (hK.below hA) Hrd.out.2))
  have hw6' := hw6.symm
  clear hw6 hb6 hs6 hk6 hA hK Hrd hR6 hb5 hb1
  go_wp2_with fail
  clear k0 k1 k2 k3 kf kf0 kf1 kf2 kf3
  clear hw6'
  generalize w6.alloc (.cells #[U (Node.num X), .string (Node.bytes X), .slice a2 (Node.nums X).length p2, .slice a3 (Node.kids X).length p3] 32) = w9 at *
  have ⟨_, r0, r1, r2, r3, _⟩ := hR7
  (try simp only [Exit.inBlock, Exit.then])
  refine bodyPost_ret (by simp [results, Tryd.results26, go_sem, r0, r1, r2, r3]; try rfl) rfl ?_
  obtain ⟨g1, g2, g3⟩ := Hfin.out
  exact ⟨_, _, _, _, X, rfl, g1, g2, g3⟩

theorem ownS_keep {w w' : World} {base : Nat} {v : Value} {s : Schema} (h : OwnS w base v s) (hk : ∀ g, base ≤ g → g < w.heap.size → w'.heap[g]? = w.heap[g]?) : OwnS w' base v s := by
  obtain ⟨vs, g1, g2⟩ := h
  exact ⟨vs, own_keep g1 fun g e => hk g (own_blk g1 e).2 (own_blk g1 e).1.lt, fun i l hl => by
    obtain ⟨u, hu, ho⟩ := g2 i l hl
    exact ⟨u, hu, own_keep ho fun g e => hk g (own_blk ho e).2 (own_blk ho e).1.lt⟩⟩
theorem row_cut {w : World} {a : Option Addr} {n cap k : Nat} {l : List Int} (h : Row w 1 (.slice a n cap) l.length (l.map (Value.int .i64))) (hn : n = l.length) (hk : k ≤ n) : Row w 1 (.slice a k cap) (l.take k).length ((l.take k).map (Value.int .i64)) := by
  obtain ⟨h1, h2, a', c', e, h4, h5, h6, h7⟩ := h
  simp only [Value.slice.injEq] at e
  obtain ⟨rfl, _, rfl⟩ := e
  have hl : (l.take k).length = k := by rw [List.length_take]; omega
  rw [hl]
  refine ⟨by simp; omega, by omega, a, cap, rfl, by omega, h5, h6, fun h0 => ?_⟩
  obtain ⟨b, off, e1, e2, e3⟩ := h7 (by omega)
  refine ⟨b, off, e1, e2, fun j hj => ?_⟩
  rw [e3 j (by omega), List.map_take, List.getElem?_take, if_pos (by omega)]

def SpecP (D : Nat) (w : World) (e : Ending) (w' : World) : Prop :=
  ∃ sv s t x0 x1 x2 x3 X, e = .returned (.tuple #[sv, .int .i64 (t : Nat), .agg #[x0, x1, x2, x3]]) ∧ Below w.heap.size w w' ∧ Sch w' sv s ∧ rightB s = true ∧ t < s.length ∧ s.length ≤ 4 ∧ RdS (D + 1) w' [x0, x1, x2, x3] X ∧ FitT s (D + 1) t X

end SMadeT2

section SMadeQ
open Go.RowKit

/-- Which type. -/
def specT (tl : List Int) (T : Int) : Nat := ((Int.tmod T ((madeS tl).length : Int) + ((madeS tl).length : Int)) % ((madeS tl).length : Int)).toNat
def SpecQ (D : Nat) (tl : List Int) (T : Int) (w : World) (e : Ending) (w' : World) : Prop :=
  ∃ sv s t x0 x1 x2 x3 X, (s = madeS tl ∧ t = specT tl T) ∧ e = .returned (.tuple #[sv, .int .i64 (t : Nat), .agg #[x0, x1, x2, x3]]) ∧ Below w.heap.size w w' ∧ Sch w' sv s ∧ rightB s = true ∧ t < s.length ∧ s.length ≤ 4 ∧ RdS (D + 1) w' [x0, x1, x2, x3] X ∧ FitT s (D + 1) t X
end SMadeQ

end Go.Proofs.YtblbhlgihlgncaaDoor


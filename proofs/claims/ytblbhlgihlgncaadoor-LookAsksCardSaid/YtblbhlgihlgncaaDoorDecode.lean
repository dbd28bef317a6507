/- look.Decode's closure: a struct of right words is decoded. -/
import Derived.Test.YtblbhlgihlgncaaDoorGq
import Derived.Test.YtblbhlgihlgncaaDoorGo
import Derived.Test.YtblbhlgihlgncaaDoorVRow
import Derived.Test.YtblbhlgihlgncaaDoorGj
set_option linter.unusedVariables false
set_option linter.unusedSimpArgs false
namespace Go.Proofs.YtblbhlgihlgncaaDoor
section SDecode
open Go.RowKit

/-- The three variables that the closure captures. -/
structure CapB (w : World) (Bs Bw Ba : Nat) (sv wv : Value) : Prop where
  s : w.cell? ⟨Bs, 0, none⟩ = some sv
  wd : w.cell? ⟨Bw, 0, none⟩ = some wv
  f : w.cell? ⟨Ba, 0, none⟩ = some (.func (.func 77) #[] #[.pointer (some ⟨Bs, 0, none⟩), .pointer (some ⟨Bw, 0, none⟩), .pointer (some ⟨Ba, 0, none⟩)])
  ls : Bs < w.heap.size
  lw : Bw < w.heap.size
  la : Ba < w.heap.size
theorem CapB.below {w w' : World} {Bs Bw Ba : Nat} {sv wv : Value} (h : CapB w Bs Bw Ba sv wv) (hb : Below w.heap.size w w') : CapB w' Bs Bw Ba sv wv :=
  ⟨(hb.cell h.ls).trans h.s, (hb.cell h.lw).trans h.wd, (hb.cell h.la).trans h.f, Nat.lt_of_lt_of_le h.ls hb.size, Nat.lt_of_lt_of_le h.lw hb.size, Nat.lt_of_lt_of_le h.la hb.size⟩

theorem cells4 {d : Nat} {w : World} {cs : List Value} {t : St (d + 1)} (h : RdS (d + 1) w cs t) : ∃ x0 x1 x2 x3, cs = [x0, x1, x2, x3] ∧ ∀ u ∈ [x0, x1, x2, x3], u.oneCell' = true := by
  obtain ⟨a2, p2, a3, p3, rfl, _⟩ := RdN.open h
  exact ⟨_, _, _, _, rfl, by simp [Value.oneCell', U]⟩

def DecP (s : Schema) (ws : List (BitVec 64)) (k : Nat) (t : Int) (p : Nat) (w : World) (e : Ending) (w' : World) : Prop :=
  ∃ cs, e = .returned (.agg cs.toArray) ∧ Below w.heap.size w w' ∧ KW (fun b => b < w.heap.size) w' (fun W => RdS (k + 1) W cs (decS s ws k t p))
def OutD {D : Nat} (F : Nat → Node (St D)) (w w2 : World) (R V N : Nat) (iv : Value) (wr : World) : Prop :=
  ∃ (i : Nat) (xs : List Value) (vk : Value), i ≤ N ∧ iv = .int .i64 i ∧ OutJ F w w2 R V i xs vk wr
def InD {D : Nat} (F : Nat → St D) (wi wk : World) (B M : Nat) (iv : Value) (wx : World) : Prop :=
  ∃ (j : Nat) (xs : List Value) (kv : Value), j ≤ M ∧ iv = .int .i64 j ∧ InJ F wi wk B j xs kv wx

set_option maxRecDepth 100000 in
set_option maxHeartbeats 200000000 in
theorem at_step (s : Schema) (hr : rightB s = true) (ws : List (BitVec 64)) (hL0 : 0 < ws.length) (hL200 : ws.length ≤ 200) (sv wv : Value) (k : Nat)
    (ih : ∀ k0, k = k0 + 1 → ∀ (t : Int) (p : Nat) (w : World) (Bs Bw Ba : Nat), CapB w Bs Bw Ba sv wv → Sch w sv s → Row w 1 wv ws.length (ws.map U) → VisOk s ws k0 t p →
      Calls Tryd.prog 77 #[.int .i64 t, .int .i64 p, .pointer (some ⟨Bs, 0, none⟩), .pointer (some ⟨Bw, 0, none⟩), .pointer (some ⟨Ba, 0, none⟩)] w (DecP s ws k0 t p w))
    (t : Int) (p : Nat) (w : World) (Bs Bw Ba : Nat) (hA : CapB w Bs Bw Ba sv wv) (hs : Sch w sv s) (hrow : Row w 1 wv ws.length (ws.map U)) (hv : VisOk s ws k t p) :
    Calls Tryd.prog 77 #[.int .i64 t, .int .i64 p, .pointer (some ⟨Bs, 0, none⟩), .pointer (some ⟨Bw, 0, none⟩), .pointer (some ⟨Ba, 0, none⟩)] w (DecP s ws k t p w) := by
  obtain ⟨iT, hiT, hzT, hsT, hbT⟩ := info_parts (show (Tryd.prog.info? 32).map (fun i => (i.zero, i.size, i.bytes)) = some (some (.agg #[.int .u64 0, .string ByteArray.empty, .slice none 0 0, .slice none 0 0]), 4, 72) by kernel_rfl)
  obtain ⟨iU, hiU, hzU, hsU, hbU⟩ := info_parts (show (Tryd.prog.info? 28).map (fun i => (i.zero, i.size, i.bytes)) = some (some (.int .u64 0), 1, 8) by kernel_rfl)
  obtain ⟨N, hN⟩ : ∃ N, N = (typeL s t).length := ⟨_, rfl⟩
  have hN6 : N ≤ 6 := by rw [hN]; exact typeL_six hr t
  have hpN : p + N ≤ ws.length := by rw [hN]; exact hv.1
  obtain ⟨F, hF⟩ : ∃ F : Nat → Node (St k), F = fun (i : Nat) => decF ws (decR s ws k) (fieldP s t i) (p + i) := ⟨_, rfl⟩
  have Hgoal := hid (show decS s ws k t p = (⟨0#64, ⟨#[]⟩, [], (List.range N).map F⟩ : Node (Node (St k))) from by rw [hF, hN]; rfl)
  have HF := hid fun (i : Nat) => show F i = decF ws (decR s ws k) (fieldP s t i) (p + i) by rw [hF]
  have Hone := hid fun (i : Nat) (hi : i < N) => show OneOk s ws k (fieldP s t i) (p + i) from vis_one hv (by rw [← hN]; exact hi)
  have Hkd := hid fun (i : Nat) (hi : i < N) => field_kd (t := t) (i := i) hr (by rw [← hN]; exact hi)
  obtain ⟨bw, offw, cap, rfl, hcap1, hcap2, hbw, hcw⟩ := hrow.cons hL0
  obtain ⟨L, hL⟩ : ∃ L, L = ws.length := ⟨_, rfl⟩
  have HL := hid hL
  have Hat := hid fun W (hW : Below w.heap.size w W) => show CapB W Bs Bw Ba sv (.slice (some ⟨bw, offw, none⟩) L cap) from by rw [hL]; exact hA.below hW
  have Hsch := hid fun W (hW : Below w.heap.size w W) => hs.below hW (Nat.le_refl _)
  have Hrow := hid fun W (hW : Below w.heap.size w W) => show Row W 1 (.slice (some ⟨bw, offw, none⟩) L cap) ws.length (ws.map U) from by rw [hL]; exact hrow.below hW (Nat.le_refl _)
  have Hcell := hid fun W (hW : Below w.heap.size w W) (q : Nat) (hq : q < L) => show W.cell? ⟨bw, offw + q, none⟩ = some (U (ws.getD q 0#64)) from by
    rw [(hW.cell (p := ⟨bw, offw + q, none⟩) hbw), hcw q (by omega), List.getElem?_map, List.getElem?_eq_getElem (by omega), List.getD_eq_getElem?_getD, List.getElem?_eq_getElem (by omega)]
    rfl
  rw [← hL] at hcap1 hpN hL200
  have Hih := hid ih
  obtain ⟨w1, hw1, hb1, hz1, hR⟩ := TB.make w (.int .u64 0) (.string ⟨#[]⟩) (.slice none 0 0) (.slice none 0 0) 32
  obtain ⟨w2, hw2, hb2, hz2, hV⟩ := TB.make w1 (.int .u64 0) (.string ⟨#[]⟩) (.slice none 0 0) (.slice none 0 0) 32
  obtain ⟨V, hVe⟩ : ∃ V, w.heap.size + 1 = V := ⟨_, rfl⟩
  have hbw2 := via hb1 hb2
  rw [hz1, hVe] at hV
  have hrel0 := hid (show OutD F w w2 w.heap.size V N (.int .i64 0) w2 from ⟨0, [], .slice none 0 0, Nat.zero_le _, rfl, ⟨hbw2, Nat.le_refl _, hV, hR.below hb2, own_nil _ _ _ _, KK.nil _ _ _, Nat.le_refl _, by omega, by omega⟩⟩)
  have s2 := (Hat.out _ hbw2).s
  have hnf := nfields_any s sv t w2 (Hsch.out _ hbw2)
  rw [← hN] at hnf
  have hlsw := hA.ls
  have hlww := hA.lw
  have hlaw := hA.la
  clear hR hV hb1 hb2 hF hN hA hs hrow hv hcw hL ih
  go_enter Tryd.func77, Tryd.ntmps77
  go_wp2_with fail
  ((refine hnf.mono ?_); rintro r w2 ⟨rfl, rfl⟩)
  go_wp2_with fail
  clear hw1 hw2 s2 hnf
  go_loopw [21] (fun iv wr => OutD F w w2 w.heap.size V N iv wr) (fun iv _ => N - (intOf iv).toNat)
  case atStart => exact hrel0.out
  case round =>
    clear hrel0
    obtain ⟨i, xs, vk, hi, rfl, hI⟩ := hrel
    obtain ⟨ao, co, rfl⟩ := own_shape hI.own
    have hA1 := Hat.out _ hI.bl
    have a0 := hA1.s
    have a1 := hA1.wd
    by_cases hilt : i < N
    · obtain ⟨x, hx⟩ : ∃ x, x = ws.getD (p + i) 0#64 := ⟨_, rfl⟩
      have xc := Hcell.out _ hI.bl (p + i) (by omega)
      have hO := Hone.out i hilt
      have hkd := Hkd.out i hilt
      have hFi := HF.out i
      have hpart := part_any x
      have hkind := hid fun W (hW : Below wr.heap.size wr W) => kind_any s sv t i W (Hsch.out _ (hI.bl.trans (hW.mono hI.bl.size)))
      have htype := hid fun W (hW : Below wr.heap.size wr W) => type_any s sv t i W (Hsch.out _ (hI.bl.trans (hW.mono hI.bl.size)))
      unfold OneOk at hO
      generalize fieldP s t i = fd at *
      obtain ⟨kd, ty⟩ := fd
      simp only at hkd hO hkind htype
      unfold decF at hFi
      simp only at hFi
      rw [← hx] at hO hFi xc
      obtain ⟨lo, hlo⟩ : ∃ lo, lo = loN x := ⟨_, rfl⟩
      obtain ⟨n, hn⟩ : ∃ n, n = hiN x := ⟨_, rfl⟩
      rw [show loV x = ((loN x : Nat) : Int) from rfl, show hiV x = ((hiN x : Nat) : Int) from rfl, ← hlo, ← hn] at hpart
      have hlo32 : lo < 4294967296 := by rw [hlo]; unfold loN; omega
      have hn32 : n < 4294967296 := by rw [hn]; unfold hiN; have := x.isLt; omega
      rw [← hlo, ← hn] at hO hFi
      obtain ⟨q, hq⟩ : ∃ q, q = p + i := ⟨_, rfl⟩
      have hqL : (q : Int) < (L : Int) := by omega
      have hpi : IntKind.i64.wrap ((p : Int) + (i : Int)) = (q : Int) := by rw [hq, Int.natCast_add]; exact IntWalk.i64_in _ (by omega)
      rw [← hq] at hO hFi xc
      obtain ⟨to, hto⟩ : ∃ to, to = q + lo := ⟨_, rfl⟩
      have hqt : IntKind.i64.wrap ((q : Int) + (lo : Int)) = (to : Int) := by rw [hto, Int.natCast_add]; exact IntWalk.i64_in _ (by omega)
      rw [← hto] at hO hFi
      have HFi := hid hFi
      have hto64 : to ≤ 4294967500 := by omega
      clear hx hlo hn hq hto
      go_wp2_with fail
      ((refine (hpart _).mono ?_); rintro r1 wr ⟨rfl, rfl⟩)
      go_wp2_with fail
      ((refine (htype.out _ (Below.refl _ _)).mono ?_); rintro r2 wa ⟨rfl, hba⟩)
      obtain ⟨wb, hwb, hbb, hzb, hB⟩ := TB.make wa (.int .u64 0) (.string ⟨#[]⟩) (.slice none 0 0) (.slice none 0 0) 32
      have hbab := via hba hbb
      have a0b := (Hat.out _ (hI.bl.trans (hbab.mono hI.bl.size))).s
      go_wp2_with fail
      ((refine (hkind.out _ hbab).mono ?_); rintro r3 wk ⟨rfl, hbk⟩)
      have hwrk := via hbab hbk
      have hbwk : Below w.heap.size w wk := hI.bl.trans (hwrk.mono hI.bl.size)
      have hKB := hB.below hbk
      obtain ⟨B, hBe⟩ : ∃ B, wa.heap.size = B := ⟨_, rfl⟩
      have hBi : wr.heap.size ≤ B := by rw [← hBe]; exact hba.size
      rw [hBe] at hKB
      have hBk : B < wk.heap.size := hKB.lt
      have ⟨_, k0, k1, k2, k3, kf⟩ := hKB
      have kf0 := kf 0
      have a1k := (Hat.out _ hbwk).wd
      have hlwk : Bw < wk.heap.size := Nat.lt_of_lt_of_le hlww hbwk.size
      have hBwB : Bw ≠ B := by have := hI.bl.size; omega
      clear hwb hkind htype hpart hB hbb hzb a0b hbab hba hbk
      by_cases hk1 : kd = 1
      · clear hFi
        obtain rfl : kd = 1 := hk1
        obtain ⟨w5, hw5⟩ : ∃ w5, wk.setCell ⟨B, 0, none⟩ (U x) = w5 := ⟨_, rfl⟩
        have hFe : (⟨x, ⟨#[]⟩, [], []⟩ : Node (St k)) = F i := by rw [HFi.out, if_pos rfl]
        have hF5 : FieldJ (⟨x, ⟨#[]⟩, [], []⟩ : Node (St k)) wr w5 B (U x) (.string ⟨#[]⟩) (.slice none 0 0) (.slice none 0 0) :=
          hw5 ▸ ⟨hwrk.setCell (by show wr.heap.size ≤ B; omega) _, hKB.set0 _, fun W hW => RdN.mk' (t := ⟨x, ⟨#[]⟩, [], []⟩) ⟨by show (⟨#[]⟩ : ByteArray).size ≤ 1000; decide, by simp, by simp⟩ (Row.nil W 1) (Kids.nil _ W)⟩
        clear hO xc a0 a1
        have htv5 := hI.tv.below hF5.bl
        have ⟨_, v0, v1, v2, v3, vf⟩ := htv5
        have ⟨_, q0, q1, q2, q3, _⟩ := hF5.tb
        have hba5 := below_alloc w5 (.cells #[U x, (.string ⟨#[]⟩), (.slice none 0 0), (.slice none 0 0)] 32)
        have hown5 := own_beneath hI.own (via hF5.bl hba5)
        have hle5 : w2.heap.size ≤ (w5.alloc (.cells #[U x, (.string ⟨#[]⟩), (.slice none 0 0), (.slice none 0 0)] 32)).heap.size := Nat.le_trans hI.sz (via hF5.bl hba5).size
        have htv6 := htv5.below hba5
        have hvne : (Value.slice ao i co).ownBlock ≠ some V := fun e => by have := (own_blk hI.own e).2; have := hI.vr; omega
        go_wp2_with (at_builtin; go_must (refine wpList_append_own_at _ rfl (.tmp 106) (.tmp 108) 30 rfl w2.heap.size 32 iT _ 4 72 Tryd.underlying30 hiT hzT hsT hbT rfl (by omega) _ i _ rfl hown5 ⟨w5.heap.size, 0, none⟩ 1 1 [U x, (.string ⟨#[]⟩), (.slice none 0 0), (.slice none 0 0)] rfl rfl (news_at _ _ rfl #[U x, (.string ⟨#[]⟩), (.slice none 0 0), (.slice none 0 0)] 32) (by simp [Value.oneCell', U]) (by unfold maxLen; omega) (by omega) hle5 ?_); intro v7 w7 ho7 hg7 _ hat7; have ⟨_, _, _, _, y3, yf⟩ := htv6.grown hg7 hvne; have yf3 := yf 3; obtain ⟨a7, c7, rfl⟩ := own_shape ho7; have hrel2 := hid (show OutD F w w2 w.heap.size V N (.int .i64 (i + 1 : Nat)) _ from ⟨i + 1, _, _, by omega, rfl, hI.next hF5 hFe hba5 ho7 hg7 hat7⟩))
        go_roundw
        case rel => exact hrel2.out
        case measure => simp [intOf] <;> omega
      by_cases hx0 : x = 0#64
      · clear hFi
        subst hx0
        have hkd1 : (kd == 1) = false := by rw [beq_eq_false_iff_ne]; exact hk1
        obtain ⟨w5, hw5⟩ : ∃ w5, w5 = wk := ⟨_, rfl⟩
        have hFe : (⟨0#64, ⟨#[]⟩, [], []⟩ : Node (St k)) = F i := by rw [HFi.out, if_neg hk1, if_pos rfl]
        have hF5 : FieldJ (⟨0#64, ⟨#[]⟩, [], []⟩ : Node (St k)) wr w5 B (.int .u64 0) (.string ⟨#[]⟩) (.slice none 0 0) (.slice none 0 0) :=
          hw5 ▸ ⟨hwrk, hKB, fun W hW => RdN.mk' (t := ⟨0#64, ⟨#[]⟩, [], []⟩) ⟨by show (⟨#[]⟩ : ByteArray).size ≤ 1000; decide, by simp, by simp⟩ (Row.nil W 1) (Kids.nil _ W)⟩
        subst hw5
        clear hO xc a0 a1
        have htv5 := hI.tv.below hF5.bl
        have ⟨_, v0, v1, v2, v3, vf⟩ := htv5
        have ⟨_, q0, q1, q2, q3, _⟩ := hF5.tb
        have hba5 := below_alloc w5 (.cells #[.int .u64 0, (.string ⟨#[]⟩), (.slice none 0 0), (.slice none 0 0)] 32)
        have hown5 := own_beneath hI.own (via hF5.bl hba5)
        have hle5 : w2.heap.size ≤ (w5.alloc (.cells #[.int .u64 0, (.string ⟨#[]⟩), (.slice none 0 0), (.slice none 0 0)] 32)).heap.size := Nat.le_trans hI.sz (via hF5.bl hba5).size
        have htv6 := htv5.below hba5
        have hvne : (Value.slice ao i co).ownBlock ≠ some V := fun e => by have := (own_blk hI.own e).2; have := hI.vr; omega
        go_wp2_with (at_builtin; go_must (refine wpList_append_own_at _ rfl (.tmp 106) (.tmp 108) 30 rfl w2.heap.size 32 iT _ 4 72 Tryd.underlying30 hiT hzT hsT hbT rfl (by omega) _ i _ rfl hown5 ⟨w5.heap.size, 0, none⟩ 1 1 [.int .u64 0, (.string ⟨#[]⟩), (.slice none 0 0), (.slice none 0 0)] rfl rfl (news_at _ _ rfl #[.int .u64 0, (.string ⟨#[]⟩), (.slice none 0 0), (.slice none 0 0)] 32) (by simp [Value.oneCell', U]) (by unfold maxLen; omega) (by omega) hle5 ?_); intro v7 w7 ho7 hg7 _ hat7; have ⟨_, _, _, _, y3, yf⟩ := htv6.grown hg7 hvne; have yf3 := yf 3; obtain ⟨a7, c7, rfl⟩ := own_shape ho7; have hrel2 := hid (show OutD F w w2 w.heap.size V N (.int .i64 (i + 1 : Nat)) _ from ⟨i + 1, _, _, by omega, rfl, hI.next hF5 hFe hba5 ho7 hg7 hat7⟩))
        go_roundw
        case rel => exact hrel2.out
        case measure => simp [intOf] <;> omega
      have nx0 : (x == 0#64) = false := by rw [beq_eq_false_iff_ne]; exact hx0
      by_cases hk2 : kd = 2
      · skip
        obtain rfl : kd = 2 := hk2
        obtain ⟨hn40, hto2, htok⟩ : n ≤ 40 ∧ to + (n + 7) / 8 ≤ ws.length ∧ textOk ((ws.drop to).take ((n + 7) / 8)) n = true := by
          rcases hO with hO | hO | ⟨_, _, h1, h2, h3, h4⟩
          · exact absurd hO (by decide)
          · exact absurd hO hx0
          · rcases h4 with h4 | h4 | h4
            · exact absurd h4.1 (by decide)
            · exact ⟨by unfold mostN at h3; simpa using h3, h4.2⟩
            · exact absurd rfl h4.1
        have htsz := textV_size htok
        rw [if_neg (by decide), if_neg hx0, if_pos rfl] at hFi
        have hcount := count_q n (by omega)
        obtain ⟨m, hm⟩ : ∃ m, m = (n + 7) / 8 := ⟨_, rfl⟩
        rw [← hm] at hto2 hcount hFi htsz htok
        have hn0 : 0 < n := by
          rcases hO with hO | hO | ⟨_, _, h1, h2, h3, h4⟩
          · exact absurd hO (by decide)
          · exact absurd hO hx0
          · exact h2
        have hm0 : 0 < m := by omega
        have htext := hid fun W (hW : Below wk.heap.size wk W) => text_any ((ws.drop to).take m) (.slice (some ⟨bw, offw + to, none⟩) m (cap - to)) n W (row_sub (Hrow.out W (hbwk.trans (hW.mono hbwk.size))) HL.out to m (by rw [HL.out]; exact hto2)) ⟨by omega, by omega⟩ (by rw [List.length_take]; omega)
        have c1 : (0 : Int) ≤ (to : Int) + (m : Int) := by omega
        have c2 : (to : Int) + (m : Int) ≤ (cap : Int) := by have := HL.out; omega
        have c3 : ((to : Int) + (m : Int)).toNat = to + m := by omega
        have c4 : ¬ cap = to := by have := HL.out; omega
        have htm : IntKind.i64.wrap ((to : Int) + (m : Int)) = (to : Int) + m := IntWalk.i64_in _ (by omega)
        have hcapL : (L : Int) ≤ (cap : Int) := by omega
        have hn40' : n ≤ 40 := hn40
        generalize htx : textV ((ws.drop to).take m) n = tx at *
        rw [htok] at htext
        clear htok hm hO xc a0 a1 hto2
        go_wp2_with fail
        refine wp_region_held_drew (S := (fun W => W.cell? ⟨Bw, 0, none⟩ = some (.slice (some ⟨bw, offw, none⟩) L cap))) (by kernel_rfl) ?_ (fun hHeld => ?_)
        · exact a1k
        refine wpAnyH_take (i := 0) (oi := { dst := some 80, op := Op.load 29 (Operand.tmp 3), type := 29, pos := "look.go:37", after := #[], guard := none }) (v := ?vd0) rfl (by kernel_rfl) (by kernel_rfl) (by kernel_rfl) (fun _ _ _ h => h) (Or.inl ⟨by rfl, ?hyd0⟩) (by assumption) ?restd0
        case hyd0 => first | (intro w hSw; (try dsimp only at hSw); go_simp; done) | (intro w hSw; (try dsimp only at hSw); go_simp; with_reducible rfl)
        try simp only [Act.put, List.setIfInBounds_toArray, List.set_cons_zero, List.set_cons_succ]
        refine wpAnyH_take (i := 1) (oi := { dst := some 81, op := Op.move (Operand.tmp 13), type := 3, pos := "look.go:37", after := #[], guard := none }) (v := ?vd1) rfl (by kernel_rfl) (by kernel_rfl) (by kernel_rfl) (fun _ _ _ h => h) (Or.inl ⟨by rfl, ?hyd1⟩) (by assumption) ?restd1
        case hyd1 => first | (intro w hSw; (try dsimp only at hSw); go_simp; done) | (intro w hSw; (try dsimp only at hSw); go_simp; with_reducible rfl)
        try simp only [Act.put, List.setIfInBounds_toArray, List.set_cons_zero, List.set_cons_succ]
        refine wpAnyH_take (i := 2) (oi := { dst := some 82, op := Op.move (Operand.tmp 13), type := 3, pos := "look.go:37", after := #[], guard := none }) (v := ?vd2) rfl (by kernel_rfl) (by kernel_rfl) (by kernel_rfl) (fun _ _ _ h => h) (Or.inl ⟨by rfl, ?hyd2⟩) (by assumption) ?restd2
        case hyd2 => first | (intro w hSw; (try dsimp only at hSw); go_simp; done) | (intro w hSw; (try dsimp only at hSw); go_simp; with_reducible rfl)
        try simp only [Act.put, List.setIfInBounds_toArray, List.set_cons_zero, List.set_cons_succ]
        refine wpAnyH_take (i := 3) (oi := { dst := some 83, op := Op.move (Operand.tmp 12), type := 3, pos := "look.go:37", after := #[], guard := none }) (v := ?vd3) rfl (by kernel_rfl) (by kernel_rfl) (by kernel_rfl) (fun _ _ _ h => h) (Or.inl ⟨by rfl, ?hyd3⟩) (by assumption) ?restd3
        case hyd3 => first | (intro w hSw; (try dsimp only at hSw); go_simp; done) | (intro w hSw; (try dsimp only at hSw); go_simp; with_reducible rfl)
        try simp only [Act.put, List.setIfInBounds_toArray, List.set_cons_zero, List.set_cons_succ]
        refine wpAnyH_take (i := 7) (oi := { dst := some 87, op := Op.move (Operand.tmp 12), type := 3, pos := "look.go:37", after := #[], guard := none }) (v := ?vd7) rfl (by kernel_rfl) (by kernel_rfl) (by kernel_rfl) (fun _ _ _ h => h) (Or.inl ⟨by rfl, ?hyd7⟩) (by assumption) ?restd7
        case hyd7 => first | (intro w hSw; (try dsimp only at hSw); go_simp; done) | (intro w hSw; (try dsimp only at hSw); go_simp; with_reducible rfl)
        try simp only [Act.put, List.setIfInBounds_toArray, List.set_cons_zero, List.set_cons_succ]
        refine wpAnyH_ready (rs := [4]) (by kernel_rfl) (by simp) ?_
        refine AllReadyH.cons (o := { dst := some 84, op := Op.call { callee := Callee.value (Operand.func 33), args := #[Operand.tmp 83], argTypes := #[3] }, type := 3, pos := "look.go:37", after := #[{ on := 3, ground := Ground.data }], guard := none }) rfl (fun K hK => ?_) AllReadyH.nil
        go_simp
        ((refine (hcount _).mono ?_); rintro rc wc ⟨rfl, rfl⟩)
        refine hK.out _ _ ?_ (fun hHeld => ?_)
        · exact hHeld
        clear hK K
        try simp only [Act.put, List.setIfInBounds_toArray, List.set_cons_zero, List.set_cons_succ]
        refine wpAnyH_take (i := 5) (oi := { dst := some 85, op := Op.binOp BinOp.add 3 (Operand.tmp 82) (Operand.tmp 84) 3, type := 3, pos := "look.go:37", after := #[{ on := 2, ground := Ground.data }, { on := 4, ground := Ground.data }], guard := none }) (v := ?vd5) rfl (by kernel_rfl) (by kernel_rfl) (by kernel_rfl) (fun _ _ _ h => h) (Or.inl ⟨by rfl, ?hyd5⟩) (by assumption) ?restd5
        case hyd5 => first | (intro w hSw; (try dsimp only at hSw); go_simp; done) | (intro w hSw; (try dsimp only at hSw); go_simp; with_reducible rfl)
        try simp only [Act.put, List.setIfInBounds_toArray, List.set_cons_zero, List.set_cons_succ]
        refine wpAnyH_take (i := 6) (oi := { dst := some 86, op := Op.slice 29 (Operand.tmp 80) (some (Operand.tmp 81)) (some (Operand.tmp 85)) none, type := 29, pos := "look.go:37", after := #[{ on := 0, ground := Ground.data }, { on := 1, ground := Ground.data }, { on := 5, ground := Ground.data }], guard := none }) (v := ?vd6) rfl (by kernel_rfl) (by kernel_rfl) (by kernel_rfl) (fun _ _ _ h => h) (Or.inl ⟨by rfl, ?hyd6⟩) (by assumption) ?restd6
        case hyd6 => first | (intro w hSw; (try dsimp only at hSw); go_simp; done) | (intro w hSw; (try dsimp only at hSw); go_simp; with_reducible rfl)
        try simp only [Act.put, List.setIfInBounds_toArray, List.set_cons_zero, List.set_cons_succ]
        refine wpAnyH_ready (rs := [8]) (by kernel_rfl) (by simp) ?_
        refine AllReadyH.cons (o := { dst := some 88, op := Op.call { callee := Callee.value (Operand.func 78), args := #[Operand.tmp 86, Operand.tmp 87], argTypes := #[29, 3] }, type := 146, pos := "look.go:37", after := #[{ on := 6, ground := Ground.data }, { on := 7, ground := Ground.data }, { on := 4, ground := Ground.chain }], guard := none }) rfl (fun K hK => ?_) AllReadyH.nil
        go_simp
        ((refine (htext.out _ (below_drewN _ wk 1)).mono ?_); rintro rt wt ⟨rfl, hbt⟩)
        have hbt2 := (below_drewN wk.heap.size wk 1).trans hbt
        have hKt := hKB.below hbt2
        have ⟨_, t0, t1, t2, t3, tf⟩ := hKt
        have tf1 := tf 1
        refine hK.out _ _ ?_ (fun hHeld => ?_)
        · exact ((hbt2.cell (p := ⟨Bw, 0, none⟩) hlwk).trans a1k)
        clear hK K
        try simp only [Act.put, List.setIfInBounds_toArray, List.set_cons_zero, List.set_cons_succ]
        refine wpAnyH_take (i := 9) (oi := { dst := some 79, op := Op.move (Operand.tmp 88), type := 146, pos := "look.go:37", after := #[{ on := 8, ground := Ground.data }], guard := none }) (v := ?vd9) rfl (by kernel_rfl) (by kernel_rfl) (by kernel_rfl) (fun _ _ _ h => h) (Or.inl ⟨by rfl, ?hyd9⟩) (by assumption) ?restd9
        case hyd9 => first | (intro w hSw; (try dsimp only at hSw); go_simp; done) | (intro w hSw; (try dsimp only at hSw); go_simp; with_reducible rfl)
        try simp only [Act.put, List.setIfInBounds_toArray, List.set_cons_zero, List.set_cons_succ]
        refine wpAnyH_take (i := 10) (oi := { dst := some 89, op := Op.extract (Operand.tmp 79) 0, type := 9, pos := "look.go:37", after := #[{ on := 9, ground := Ground.data }], guard := none }) (v := ?vd10) rfl (by kernel_rfl) (by kernel_rfl) (by kernel_rfl) (fun _ _ _ h => h) (Or.inl ⟨by rfl, ?hyd10⟩) (by assumption) ?restd10
        case hyd10 => first | (intro w hSw; (try dsimp only at hSw); go_simp; done) | (intro w hSw; (try dsimp only at hSw); go_simp; with_reducible rfl)
        try simp only [Act.put, List.setIfInBounds_toArray, List.set_cons_zero, List.set_cons_succ]
        refine wpAnyH_take (i := 11) (oi := { dst := some 90, op := Op.extract (Operand.tmp 79) 1, type := 4, pos := "look.go:37", after := #[{ on := 9, ground := Ground.data }, { on := 13, ground := Ground.gcOnly Departure.lateStores }], guard := none }) (v := ?vd11) rfl (by kernel_rfl) (by kernel_rfl) (by kernel_rfl) (fun _ _ _ h => h) (Or.inl ⟨by rfl, ?hyd11⟩) (by assumption) ?restd11
        case hyd11 => first | (intro w hSw; (try dsimp only at hSw); go_simp; done) | (intro w hSw; (try dsimp only at hSw); go_simp; with_reducible rfl)
        try simp only [Act.put, List.setIfInBounds_toArray, List.set_cons_zero, List.set_cons_succ]
        refine wpAnyH_take (i := 12) (oi := { dst := some 91, op := Op.fieldAddr 32 (Operand.tmp 15) 1, type := 0, pos := "look.go:37", after := #[{ on := 0, ground := Ground.phase }, { on := 1, ground := Ground.phase }, { on := 2, ground := Ground.phase }, { on := 3, ground := Ground.phase }, { on := 4, ground := Ground.phase }, { on := 5, ground := Ground.phase }, { on := 6, ground := Ground.phase }, { on := 7, ground := Ground.phase }, { on := 8, ground := Ground.phase }, { on := 9, ground := Ground.phase }, { on := 10, ground := Ground.phase }, { on := 11, ground := Ground.textOnly Departure.lateStores }], guard := none }) (v := ?vd12) rfl (by kernel_rfl) (by kernel_rfl) (by kernel_rfl) (fun _ _ _ h => h) (Or.inl ⟨by rfl, ?hyd12⟩) (by assumption) ?restd12
        case hyd12 => first | (intro w hSw; (try dsimp only at hSw); go_simp; done) | (intro w hSw; (try dsimp only at hSw); go_simp; with_reducible rfl)
        try simp only [Act.put, List.setIfInBounds_toArray, List.set_cons_zero, List.set_cons_succ]
        refine wpAnyH_ready (rs := [13]) (by kernel_rfl) (by simp) ?_
        refine AllReadyH.cons (o := { dst := none, op := Op.store 9 (Operand.tmp 91) (Operand.tmp 89), type := 0, pos := "look.go:37", after := #[{ on := 12, ground := Ground.data }, { on := 10, ground := Ground.data }, { on := 8, ground := Ground.chain }, { on := 0, ground := Ground.phase }, { on := 1, ground := Ground.phase }, { on := 2, ground := Ground.phase }, { on := 3, ground := Ground.phase }, { on := 4, ground := Ground.phase }, { on := 5, ground := Ground.phase }, { on := 6, ground := Ground.phase }, { on := 7, ground := Ground.phase }, { on := 8, ground := Ground.phase }, { on := 9, ground := Ground.phase }, { on := 10, ground := Ground.phase }, { on := 11, ground := Ground.textOnly Departure.lateStores }], guard := none }) rfl (fun K hK => ?_) AllReadyH.nil
        go_simp
        refine hK.out _ _ ?_ (fun hHeld => ?_)
        · exact by rw [World.cell?_setCell_other _ _ _ _ (by simp [hBwB])]; exact hHeld
        clear hK K
        try simp only [Act.put, List.setIfInBounds_toArray, List.set_cons_zero, List.set_cons_succ]
        refine wpAnyH_done (by kernel_rfl) ?_ _
        obtain ⟨w5, hw5⟩ : ∃ w5, wt.setCell ⟨B, 1, none⟩ (.string ⟨tx.toArray⟩) = w5 := ⟨_, rfl⟩
        have hFe : (⟨0#64, ⟨tx.toArray⟩, [], []⟩ : Node (St k)) = F i := hFi.symm
        have htsz2 : (⟨tx.toArray⟩ : ByteArray).size ≤ 1000 := by
          show tx.toArray.size ≤ 1000
          rw [List.size_toArray]; omega
        have hF5 : FieldJ (⟨0#64, ⟨tx.toArray⟩, [], []⟩ : Node (St k)) wr w5 B (.int .u64 0) (.string ⟨tx.toArray⟩) (.slice none 0 0) (.slice none 0 0) :=
          hw5 ▸ ⟨(hwrk.trans (hbt2.mono hwrk.size)).setCell (by show wr.heap.size ≤ B; omega) _, hKt.set1 _, fun W hW => RdN.mk' (t := ⟨0#64, ⟨tx.toArray⟩, [], []⟩) ⟨htsz2, by simp, by simp⟩ (Row.nil W 1) (Kids.nil _ W)⟩
        clear htsz htsz2 htext hcount t0 t1 t2 t3 tf tf1 hFi a1k k0 k1 k2 k3 kf
        have htv5 := hI.tv.below hF5.bl
        have ⟨_, v0, v1, v2, v3, vf⟩ := htv5
        have ⟨_, q0, q1, q2, q3, _⟩ := hF5.tb
        have hba5 := below_alloc w5 (.cells #[.int .u64 0, .string ⟨tx.toArray⟩, (.slice none 0 0), (.slice none 0 0)] 32)
        have hown5 := own_beneath hI.own (via hF5.bl hba5)
        have hle5 : w2.heap.size ≤ (w5.alloc (.cells #[.int .u64 0, .string ⟨tx.toArray⟩, (.slice none 0 0), (.slice none 0 0)] 32)).heap.size := Nat.le_trans hI.sz (via hF5.bl hba5).size
        have htv6 := htv5.below hba5
        have hvne : (Value.slice ao i co).ownBlock ≠ some V := fun e => by have := (own_blk hI.own e).2; have := hI.vr; omega
        go_wp2_with (at_builtin; go_must (refine wpList_append_own_at _ rfl (.tmp 106) (.tmp 108) 30 rfl w2.heap.size 32 iT _ 4 72 Tryd.underlying30 hiT hzT hsT hbT rfl (by omega) _ i _ rfl hown5 ⟨w5.heap.size, 0, none⟩ 1 1 [.int .u64 0, .string ⟨tx.toArray⟩, (.slice none 0 0), (.slice none 0 0)] rfl rfl (news_at _ _ rfl #[.int .u64 0, .string ⟨tx.toArray⟩, (.slice none 0 0), (.slice none 0 0)] 32) (by simp [Value.oneCell', U]) (by unfold maxLen; omega) (by omega) hle5 ?_); intro v7 w7 ho7 hg7 _ hat7; have ⟨_, _, _, _, y3, yf⟩ := htv6.grown hg7 hvne; have yf3 := yf 3; obtain ⟨a7, c7, rfl⟩ := own_shape ho7; have hrel2 := hid (show OutD F w w2 w.heap.size V N (.int .i64 (i + 1 : Nat)) _ from ⟨i + 1, _, _, by omega, rfl, hI.next hF5 hFe hba5 ho7 hg7 hat7⟩))
        go_roundw
        case rel => exact hrel2.out
        case measure => simp [intOf] <;> omega
      by_cases hk3 : kd = 3
      · skip
        obtain rfl : kd = 3 := hk3
        obtain ⟨hn12, hto2⟩ : n ≤ 12 ∧ to + n ≤ ws.length := by
          rcases hO with hO | hO | ⟨_, _, h1, h2, h3, h4⟩
          · exact absurd hO (by decide)
          · exact absurd hO hx0
          · rcases h4 with h4 | h4 | h4
            · exact ⟨by unfold mostN at h3; simpa using h3, h4.2⟩
            · exact absurd h4.1 (by decide)
            · exact absurd rfl h4.2.1
        rw [if_neg (by decide), if_neg hx0, if_neg (by decide), if_pos rfl] at hFi
        have hn0 : 0 < n := by
          rcases hO with hO | hO | ⟨_, _, h1, h2, h3, h4⟩
          · exact absurd hO (by decide)
          · exact absurd hO hx0
          · exact h2
        have c1 : (0 : Int) ≤ (to : Int) + (n : Int) := by omega
        have c2 : (to : Int) + (n : Int) ≤ (cap : Int) := by have := HL.out; omega
        have c3 : ((to : Int) + (n : Int)).toNat = to + n := by omega
        have c4 : ¬ cap = to := by have := HL.out; omega
        have htm : IntKind.i64.wrap ((to : Int) + (n : Int)) = (to : Int) + n := IntWalk.i64_in _ (by omega)
        have hcapL : (L : Int) ≤ (cap : Int) := by omega
        have hrowk := row_sub (Hrow.out wk.drew (hbwk.trans ((below_drewN _ wk 1).mono hbwk.size))) HL.out to n (by rw [HL.out]; exact hto2)
        have hlen : ((ws.drop to).take n).length = n := by rw [List.length_take, List.length_drop]; omega
        have hnl : (((ws.drop to).take n).map U).length = n * 1 := by rw [List.length_map, hlen]; omega
        have hone1 : ∀ u ∈ ((ws.drop to).take n).map U, u.oneCell' = true := fun u hu => by obtain ⟨y, _, rfl⟩ := List.mem_map.1 hu; rfl
        have hnews := hid fun (j : Nat) (u : Value) (hu : (((ws.drop to).take n).map U)[j]? = some u) => show wk.drew.cell? ((⟨bw, offw + to, none⟩ : Addr).add j) = some u from by
          have hj : j < n := by have := (List.getElem?_eq_some_iff.1 hu).1; rw [List.length_map, hlen] at this; exact this
          rw [← hu]
          have := (hrowk.cells (by rw [hlen]; exact hn0)).2 j (by rw [hlen]; omega)
          rw [← this]
          unfold Addr.add
          split
          · next h0 => rw [h0]; rfl
          · rfl
        generalize hys : (ws.drop to).take n = ys at *
        clear hO xc a0 a1 hto2 hrowk
        go_wp2_with fail
        refine wp_region_kept 10 (fun W => W.cell? ⟨Bw, 0, none⟩ = some (.slice (some ⟨bw, offw, none⟩) L cap) ∧ W.cell? ⟨B, 2, none⟩ = some (.slice none 0 0)) (by kernel_rfl) ?_ (fun hHeld => ?_)
        · exact ⟨a1k, k2⟩
        refine wpAnyK_take (i := 0) (oi := { dst := some 95, op := Op.fieldAddr 32 (Operand.tmp 15) 2, type := 0, pos := "look.go:39", after := #[], guard := none }) (v := ?ve0) rfl (by kernel_rfl) (by kernel_rfl) (by kernel_rfl) (by kernel_rfl) (fun _ _ _ h => h) (Or.inl ⟨by rfl, ?hye0⟩) (by assumption) ?reste0
        case hye0 => first | (intro w hSw; (try dsimp only at hSw); go_simp; done) | (intro w hSw; (try dsimp only at hSw); go_simp; with_reducible rfl)
        try simp only [Act.put, List.setIfInBounds_toArray, List.set_cons_zero, List.set_cons_succ]
        refine wpAnyK_take (i := 1) (oi := { dst := some 96, op := Op.load 29 (Operand.tmp 95), type := 29, pos := "look.go:39", after := #[{ on := 0, ground := Ground.data }], guard := none }) (v := ?ve1) rfl (by kernel_rfl) (by kernel_rfl) (by kernel_rfl) (by kernel_rfl) (fun _ _ _ h => h) (Or.inl ⟨by rfl, ?hye1⟩) (by assumption) ?reste1
        case hye1 => first | (intro w hSw; (try dsimp only at hSw); go_simp; done) | (intro w hSw; (try dsimp only at hSw); go_simp; with_reducible rfl)
        try simp only [Act.put, List.setIfInBounds_toArray, List.set_cons_zero, List.set_cons_succ]
        refine wpAnyK_take (i := 2) (oi := { dst := some 97, op := Op.load 29 (Operand.tmp 3), type := 29, pos := "look.go:39", after := #[], guard := none }) (v := ?ve2) rfl (by kernel_rfl) (by kernel_rfl) (by kernel_rfl) (by kernel_rfl) (fun _ _ _ h => h) (Or.inl ⟨by rfl, ?hye2⟩) (by assumption) ?reste2
        case hye2 => first | (intro w hSw; (try dsimp only at hSw); go_simp; done) | (intro w hSw; (try dsimp only at hSw); go_simp; with_reducible rfl)
        try simp only [Act.put, List.setIfInBounds_toArray, List.set_cons_zero, List.set_cons_succ]
        refine wpAnyK_take (i := 3) (oi := { dst := some 98, op := Op.move (Operand.tmp 13), type := 3, pos := "look.go:39", after := #[], guard := none }) (v := ?ve3) rfl (by kernel_rfl) (by kernel_rfl) (by kernel_rfl) (by kernel_rfl) (fun _ _ _ h => h) (Or.inl ⟨by rfl, ?hye3⟩) (by assumption) ?reste3
        case hye3 => first | (intro w hSw; (try dsimp only at hSw); go_simp; done) | (intro w hSw; (try dsimp only at hSw); go_simp; with_reducible rfl)
        try simp only [Act.put, List.setIfInBounds_toArray, List.set_cons_zero, List.set_cons_succ]
        refine wpAnyK_take (i := 4) (oi := { dst := some 99, op := Op.move (Operand.tmp 13), type := 3, pos := "look.go:39", after := #[], guard := none }) (v := ?ve4) rfl (by kernel_rfl) (by kernel_rfl) (by kernel_rfl) (by kernel_rfl) (fun _ _ _ h => h) (Or.inl ⟨by rfl, ?hye4⟩) (by assumption) ?reste4
        case hye4 => first | (intro w hSw; (try dsimp only at hSw); go_simp; done) | (intro w hSw; (try dsimp only at hSw); go_simp; with_reducible rfl)
        try simp only [Act.put, List.setIfInBounds_toArray, List.set_cons_zero, List.set_cons_succ]
        refine wpAnyK_take (i := 5) (oi := { dst := some 100, op := Op.move (Operand.tmp 12), type := 3, pos := "look.go:39", after := #[], guard := none }) (v := ?ve5) rfl (by kernel_rfl) (by kernel_rfl) (by kernel_rfl) (by kernel_rfl) (fun _ _ _ h => h) (Or.inl ⟨by rfl, ?hye5⟩) (by assumption) ?reste5
        case hye5 => first | (intro w hSw; (try dsimp only at hSw); go_simp; done) | (intro w hSw; (try dsimp only at hSw); go_simp; with_reducible rfl)
        try simp only [Act.put, List.setIfInBounds_toArray, List.set_cons_zero, List.set_cons_succ]
        refine wpAnyK_take (i := 6) (oi := { dst := some 101, op := Op.binOp BinOp.add 3 (Operand.tmp 99) (Operand.tmp 100) 3, type := 3, pos := "look.go:39", after := #[{ on := 4, ground := Ground.data }, { on := 5, ground := Ground.data }], guard := none }) (v := ?ve6) rfl (by kernel_rfl) (by kernel_rfl) (by kernel_rfl) (by kernel_rfl) (fun _ _ _ h => h) (Or.inl ⟨by rfl, ?hye6⟩) (by assumption) ?reste6
        case hye6 => first | (intro w hSw; (try dsimp only at hSw); go_simp; done) | (intro w hSw; (try dsimp only at hSw); go_simp; with_reducible rfl)
        try simp only [Act.put, List.setIfInBounds_toArray, List.set_cons_zero, List.set_cons_succ]
        refine wpAnyK_take (i := 7) (oi := { dst := some 102, op := Op.slice 29 (Operand.tmp 97) (some (Operand.tmp 98)) (some (Operand.tmp 101)) none, type := 29, pos := "look.go:39", after := #[{ on := 2, ground := Ground.data }, { on := 3, ground := Ground.data }, { on := 6, ground := Ground.data }], guard := none }) (v := ?ve7) rfl (by kernel_rfl) (by kernel_rfl) (by kernel_rfl) (by kernel_rfl) (fun _ _ _ h => h) (Or.inl ⟨by rfl, ?hye7⟩) (by assumption) ?reste7
        case hye7 => first | (intro w hSw; (try dsimp only at hSw); go_simp; done) | (intro w hSw; (try dsimp only at hSw); go_simp; with_reducible rfl)
        try simp only [Act.put, List.setIfInBounds_toArray, List.set_cons_zero, List.set_cons_succ]
        refine wpAnyK_ready (rs := [8]) (by kernel_rfl) (by simp) ?_
        refine AllReadyK.cons (o := { dst := some 103, op := Op.call { callee := Callee.builtin Builtin.append, args := #[Operand.tmp 96, Operand.tmp 102], argTypes := #[29, 29] }, type := 29, pos := "look.go:39", after := #[{ on := 1, ground := Ground.data }, { on := 7, ground := Ground.data }], guard := none }) rfl (fun K hK => ?_) AllReadyK.nil
        rw [if_pos (by rfl)]
        refine wp_append_own_at _ (.tmp 96) (.tmp 102) 29 rfl wk.heap.size 28 iU _ 1 8 Tryd.underlying29 hiU hzU hsU hbU rfl (by omega) (.slice none 0 0) 0 [] rfl (own_nil _ _ _ _) ⟨bw, offw + to, none⟩ n (cap - to) (ys.map U) rfl hnl hnews.out hone1 (by unfold maxLen; omega) (by omega) (Nat.le_refl _) ?_
        intro v6 w6 ho6 hg6 _ hat6
        obtain ⟨a6, c6, rfl⟩ := own_shape ho6
        have hb6 : Below wk.heap.size wk w6 := (below_drewN wk.heap.size wk 1).grown hg6 (Nat.le_refl _) (fun b e => by cases e)
        have hK6 := hKB.below hb6
        have ⟨_, t0, t1, t2, t3, tf⟩ := hK6
        have tf2 := tf 2
        refine hK.out _ _ (.inr ?_) (fun hHeld0 => ?_)
        · exact ⟨(hb6.cell (p := ⟨Bw, 0, none⟩) hlwk).trans a1k, t2⟩
        have hHeld := hHeld0.resolve_left (by decide)
        clear hHeld0 hK K
        try simp only [Act.put, List.setIfInBounds_toArray, List.set_cons_zero, List.set_cons_succ]
        refine wpAnyK_take (i := 9) (oi := { dst := some 104, op := Op.fieldAddr 32 (Operand.tmp 15) 2, type := 0, pos := "look.go:39", after := #[{ on := 0, ground := Ground.phase }, { on := 1, ground := Ground.phase }, { on := 2, ground := Ground.phase }, { on := 3, ground := Ground.phase }, { on := 4, ground := Ground.phase }, { on := 5, ground := Ground.phase }, { on := 6, ground := Ground.phase }, { on := 7, ground := Ground.phase }, { on := 8, ground := Ground.phase }], guard := none }) (v := ?ve9) rfl (by kernel_rfl) (by kernel_rfl) (by kernel_rfl) (by kernel_rfl) (fun _ _ _ h => h) (Or.inl ⟨by rfl, ?hye9⟩) (by assumption) ?reste9
        case hye9 => first | (intro w hSw; (try dsimp only at hSw); go_simp; done) | (intro w hSw; (try dsimp only at hSw); go_simp; with_reducible rfl)
        try simp only [Act.put, List.setIfInBounds_toArray, List.set_cons_zero, List.set_cons_succ]
        refine wpAnyK_ready (rs := [10]) (by kernel_rfl) (by simp) ?_
        refine AllReadyK.cons (o := { dst := none, op := Op.store 29 (Operand.tmp 104) (Operand.tmp 103), type := 0, pos := "look.go:39", after := #[{ on := 9, ground := Ground.data }, { on := 8, ground := Ground.data }, { on := 8, ground := Ground.chain }, { on := 0, ground := Ground.phase }, { on := 1, ground := Ground.phase }, { on := 2, ground := Ground.phase }, { on := 3, ground := Ground.phase }, { on := 4, ground := Ground.phase }, { on := 5, ground := Ground.phase }, { on := 6, ground := Ground.phase }, { on := 7, ground := Ground.phase }, { on := 8, ground := Ground.phase }], guard := none }) rfl (fun K hK => ?_) AllReadyK.nil
        go_simp
        refine hK.out _ _ (.inl rfl) (fun hHeld0 => ?_)
        clear hHeld0 hK K
        try simp only [Act.put, List.setIfInBounds_toArray, List.set_cons_zero, List.set_cons_succ]
        refine wpAnyK_done (by kernel_rfl) ?_ _
        obtain ⟨w5, hw5⟩ : ∃ w5, w6.setCell ⟨B, 2, none⟩ (.slice a6 n c6) = w5 := ⟨_, rfl⟩
        have hFe : (⟨0#64, ⟨#[]⟩, ys, []⟩ : Node (St k)) = F i := hFi.symm
        have ho5 : w5.ownsRow wk.heap.size 28 1 (.slice a6 n c6) n (ys.map U) := by
          rw [← hw5]
          have ho6' : w6.ownsRow wk.heap.size 28 1 (.slice a6 n c6) n (ys.map U) := by simpa using ho6
          exact own_keep ho6' fun g e => Below.heap_setCell _ _ _ _ (by have := (own_blk ho6' e).2; show g ≠ B; omega)
        have hF5 : FieldJ (⟨0#64, ⟨#[]⟩, ys, []⟩ : Node (St k)) wr w5 B (.int .u64 0) (.string ⟨#[]⟩) (.slice a6 n c6) (.slice none 0 0) :=
          ⟨hw5 ▸ (hwrk.trans (hb6.mono hwrk.size)).setCell (by show wr.heap.size ≤ B; omega) _, hw5 ▸ hK6.set2 _, fun W hW => RdN.mk' (t := ⟨0#64, ⟨#[]⟩, ys, []⟩) ⟨by show (⟨#[]⟩ : ByteArray).size ≤ 1000; decide, by show ys.length ≤ 1000; omega, by simp⟩ (by
            have := kw_own (G := fun b => b < wr.heap.size) ho5 (fun g e => by have := (own_blk ho5 e).2; have := hwrk.size; show ¬ g < wr.heap.size; omega) W hW
            show Row W 1 _ ys.length _
            rw [hlen]; exact this) (Kids.nil _ W)⟩
        clear hnl hone1 hnews t0 t1 t2 t3 tf tf2 hFi a1k k0 k1 k2 k3 kf
        have htv5 := hI.tv.below hF5.bl
        have ⟨_, v0, v1, v2, v3, vf⟩ := htv5
        have ⟨_, q0, q1, q2, q3, _⟩ := hF5.tb
        have hba5 := below_alloc w5 (.cells #[.int .u64 0, (.string ⟨#[]⟩), .slice a6 n c6, (.slice none 0 0)] 32)
        have hown5 := own_beneath hI.own (via hF5.bl hba5)
        have hle5 : w2.heap.size ≤ (w5.alloc (.cells #[.int .u64 0, (.string ⟨#[]⟩), .slice a6 n c6, (.slice none 0 0)] 32)).heap.size := Nat.le_trans hI.sz (via hF5.bl hba5).size
        have htv6 := htv5.below hba5
        have hvne : (Value.slice ao i co).ownBlock ≠ some V := fun e => by have := (own_blk hI.own e).2; have := hI.vr; omega
        go_wp2_with (at_builtin; go_must (refine wpList_append_own_at _ rfl (.tmp 106) (.tmp 108) 30 rfl w2.heap.size 32 iT _ 4 72 Tryd.underlying30 hiT hzT hsT hbT rfl (by omega) _ i _ rfl hown5 ⟨w5.heap.size, 0, none⟩ 1 1 [.int .u64 0, (.string ⟨#[]⟩), .slice a6 n c6, (.slice none 0 0)] rfl rfl (news_at _ _ rfl #[.int .u64 0, (.string ⟨#[]⟩), .slice a6 n c6, (.slice none 0 0)] 32) (by simp [Value.oneCell', U]) (by unfold maxLen; omega) (by omega) hle5 ?_); intro v7 w7 ho7 hg7 _ hat7; have ⟨_, _, _, _, y3, yf⟩ := htv6.grown hg7 hvne; have yf3 := yf 3; obtain ⟨a7, c7, rfl⟩ := own_shape ho7; have hrel2 := hid (show OutD F w w2 w.heap.size V N (.int .i64 (i + 1 : Nat)) _ from ⟨i + 1, _, _, by omega, rfl, hI.next hF5 hFe hba5 ho7 hg7 hat7⟩))
        go_roundw
        case rel => exact hrel2.out
        case measure => simp [intOf] <;> omega
      · skip
        obtain ⟨k0', hk0', hn12, hto2, hsub, hn0⟩ : ∃ k', k = k' + 1 ∧ n ≤ 12 ∧ to + n * (typeL s ty).length ≤ ws.length ∧ (∀ j, j < n → VisOk s ws k' ty (to + j * (typeL s ty).length)) ∧ 0 < n := by
          rcases hO with hO | hO | ⟨_, _, h1, h2, h3, h4⟩
          · exact absurd hO hk1
          · exact absurd hO hx0
          · rcases h4 with h4 | h4 | ⟨_, _, k', e, h5, h6⟩
            · exact absurd h4.1 hk3
            · exact absurd h4.1 hk2
            · refine ⟨k', e, ?_, h5, h6, h2⟩
              unfold mostN at h3
              rw [if_neg hk2] at h3
              split at h3 <;> omega
        subst hk0'
        rw [if_neg hk1, if_neg hx0, if_neg hk2, if_neg hk3, decR_succ] at hFi
        have hkd1 : (kd == 1) = false := by rw [beq_eq_false_iff_ne]; exact hk1
        have hkd2 : (kd == 2) = false := by rw [beq_eq_false_iff_ne]; exact hk2
        have hkd3 : (kd == 3) = false := by rw [beq_eq_false_iff_ne]; exact hk3
        obtain ⟨G, hG⟩ : ∃ G : Nat → St (k0' + 1), G = fun (j : Nat) => decS s ws k0' ty (to + j * (typeL s ty).length) := ⟨_, rfl⟩
        rw [← hG] at hFi
        obtain ⟨z, hz⟩ : ∃ z, z = (typeL s ty).length := ⟨_, rfl⟩
        have hz6 : z ≤ 6 := by rw [hz]; exact typeL_six hr ty
        have Hcall := hid fun (j : Nat) (hj : j < n) (W : World) (hW : Below w.heap.size w W) => show Calls Tryd.prog 77 #[.int .i64 ty, .int .i64 ((to + j * z : Nat) : Int), .pointer (some ⟨Bs, 0, none⟩), .pointer (some ⟨Bw, 0, none⟩), .pointer (some ⟨Ba, 0, none⟩)] W (fun e w' => ∃ cs, e = .returned (.agg cs.toArray) ∧ Below W.heap.size W w' ∧ KW (fun b => b < W.heap.size) w' (fun W' => RdS (k0' + 1) W' cs (G j))) from by
          rw [hG, hz]
          have hA' := Hat.out W hW
          have hR' := Hrow.out W hW
          rw [HL.out] at hA' hR'
          exact Hih.out k0' rfl ty (to + j * (typeL s ty).length) W Bs Bw Ba hA' (Hsch.out W hW) hR' (hsub j hj)
        have Hnf := hid fun W (hW : Below w.heap.size w W) => show Calls Tryd.prog 38 #[sv, .int .i64 ty] W (fun r w' => r = .returned (.int .i64 z) ∧ w' = W) from by rw [hz]; exact nfields_any s sv ty W (Hsch.out W hW)
        have hto200 : to ≤ 200 := by
          have := Nat.le_trans (Nat.le_add_right to (n * (typeL s ty).length)) hto2; have := HL.out; omega
        have hFi' := hid hFi
        obtain ⟨wi, hwi⟩ : ∃ wi, wi = wr := ⟨_, rfl⟩
        subst hwi
        have hlsk : Bs < wk.heap.size := Nat.lt_of_lt_of_le (Hat.out w (Below.refl _ _)).ls hbwk.size
        have hlak : Ba < wk.heap.size := Nat.lt_of_lt_of_le (Hat.out w (Below.refl _ _)).la hbwk.size
        have hrel0 := hid (show InD G wi wk B n (.int .i64 0) wk from ⟨0, [], .slice none 0 0, Nat.zero_le _, rfl, ⟨hwrk, Nat.le_refl _, fun _ _ _ => rfl, hKB, own_nil _ _ _ _, KK.nil _ _ _, hBi, hBk⟩⟩)
        clear hO xc a0 a1 a1k hG hz hsub hFi hto2
        go_wp2_with fail
        clear k0 k1 k2 k3 kf
        go_loopw [49] (fun iv wr => InD G wi wk B n iv wr) (fun iv _ => n - (intOf iv).toNat)
        case atStart => exact hrel0.out
        case round =>
          clear hrel0
          obtain ⟨j, xs2, kv, hj, rfl, hin⟩ := hrel
          obtain ⟨ak, ck, rfl⟩ := own_shape hin.own
          have ⟨_, k0, k1, k2, k3, kf⟩ := hin.tb
          by_cases hjn : j < n
          · have hjn2 : (j : Int) < (n : Int) := by omega
            have hbwr := hI.bl.trans (hin.bl.mono hI.bl.size)
            have h1 := Hat.out wr hbwr
            have hcall := hid fun W (hW : Below wr.heap.size wr W) => Hcall.out j hjn W (hbwr.trans (hW.mono hbwr.size))
            have hnfty := hid fun W (hW : Below wr.heap.size wr W) => Hnf.out W (hbwr.trans (hW.mono hbwr.size))
            have hjz : j * z ≤ 72 := Nat.le_trans (Nat.mul_le_mul (Nat.le_trans (Nat.le_of_lt hjn) hn12) hz6) (by omega)
            obtain ⟨jz, hjze⟩ : ∃ jz, jz = j * z := ⟨_, rfl⟩
            rw [← hjze] at hjz
            have hmul : IntKind.i64.wrap ((j : Int) * (z : Int)) = (jz : Int) := by rw [hjze, Int.natCast_mul]; exact IntWalk.i64_in _ (by rw [← Int.natCast_mul, ← hjze]; omega)
            obtain ⟨pj, hpj⟩ : ∃ pj, pj = to + jz := ⟨_, rfl⟩
            have hadd : IntKind.i64.wrap ((to : Int) + (jz : Int)) = (pj : Int) := by rw [hpj, Int.natCast_add]; exact IntWalk.i64_in _ (by omega)
            rw [← hjze, ← hpj] at hcall
            clear hjze hpj
            go_wp2_with fail
            refine wp_region_kept 15 (fun W => W.cell? ⟨B, 3, none⟩ = some (.slice ak j ck) ∧ W.cell? ⟨Ba, 0, none⟩ = some (.func (.func 77) #[] #[.pointer (some ⟨Bs, 0, none⟩), .pointer (some ⟨Bw, 0, none⟩), .pointer (some ⟨Ba, 0, none⟩)]) ∧ W.cell? ⟨Bs, 0, none⟩ = some sv) (by kernel_rfl) ?_ (fun hHeld => ?_)
            · exact ⟨k3, h1.f, h1.s⟩
            refine wpAnyK_take (i := 0) (oi := { dst := some 52, op := Op.fieldAddr 32 (Operand.tmp 15) 3, type := 0, pos := "look.go:42", after := #[], guard := none }) (v := ?vg0) rfl (by kernel_rfl) (by kernel_rfl) (by kernel_rfl) (by kernel_rfl) (fun _ _ _ h => h) (Or.inl ⟨by rfl, ?hyg0⟩) (by assumption) ?restg0
            case hyg0 => first | (intro w hSw; (try dsimp only at hSw); go_simp; done) | (intro w hSw; (try dsimp only at hSw); go_simp; with_reducible rfl)
            try simp only [Act.put, List.setIfInBounds_toArray, List.set_cons_zero, List.set_cons_succ]
            refine wpAnyK_take (i := 1) (oi := { dst := some 53, op := Op.load 30 (Operand.tmp 52), type := 30, pos := "look.go:42", after := #[{ on := 0, ground := Ground.data }], guard := none }) (v := ?vg1) rfl (by kernel_rfl) (by kernel_rfl) (by kernel_rfl) (by kernel_rfl) (fun _ _ _ h => h) (Or.inl ⟨by rfl, ?hyg1⟩) (by assumption) ?restg1
            case hyg1 => first | (intro w hSw; (try dsimp only at hSw); go_simp; done) | (intro w hSw; (try dsimp only at hSw); go_simp; with_reducible rfl)
            try simp only [Act.put, List.setIfInBounds_toArray, List.set_cons_zero, List.set_cons_succ]
            refine wpAnyK_take (i := 2) (oi := { dst := some 54, op := Op.load 149 (Operand.tmp 4), type := 149, pos := "look.go:42", after := #[], guard := none }) (v := ?vg2) rfl (by kernel_rfl) (by kernel_rfl) (by kernel_rfl) (by kernel_rfl) (fun _ _ _ h => h) (Or.inl ⟨by rfl, ?hyg2⟩) (by assumption) ?restg2
            case hyg2 => first | (intro w hSw; (try dsimp only at hSw); go_simp; done) | (intro w hSw; (try dsimp only at hSw); go_simp; with_reducible rfl)
            try simp only [Act.put, List.setIfInBounds_toArray, List.set_cons_zero, List.set_cons_succ]
            refine wpAnyK_take (i := 3) (oi := { dst := some 55, op := Op.move (Operand.tmp 14), type := 3, pos := "look.go:42", after := #[], guard := none }) (v := ?vg3) rfl (by kernel_rfl) (by kernel_rfl) (by kernel_rfl) (by kernel_rfl) (fun _ _ _ h => h) (Or.inl ⟨by rfl, ?hyg3⟩) (by assumption) ?restg3
            case hyg3 => first | (intro w hSw; (try dsimp only at hSw); go_simp; done) | (intro w hSw; (try dsimp only at hSw); go_simp; with_reducible rfl)
            try simp only [Act.put, List.setIfInBounds_toArray, List.set_cons_zero, List.set_cons_succ]
            refine wpAnyK_take (i := 4) (oi := { dst := some 56, op := Op.move (Operand.tmp 13), type := 3, pos := "look.go:42", after := #[], guard := none }) (v := ?vg4) rfl (by kernel_rfl) (by kernel_rfl) (by kernel_rfl) (by kernel_rfl) (fun _ _ _ h => h) (Or.inl ⟨by rfl, ?hyg4⟩) (by assumption) ?restg4
            case hyg4 => first | (intro w hSw; (try dsimp only at hSw); go_simp; done) | (intro w hSw; (try dsimp only at hSw); go_simp; with_reducible rfl)
            try simp only [Act.put, List.setIfInBounds_toArray, List.set_cons_zero, List.set_cons_succ]
            refine wpAnyK_take (i := 5) (oi := { dst := some 57, op := Op.move (Operand.tmp 17), type := 3, pos := "look.go:42", after := #[], guard := none }) (v := ?vg5) rfl (by kernel_rfl) (by kernel_rfl) (by kernel_rfl) (by kernel_rfl) (fun _ _ _ h => h) (Or.inl ⟨by rfl, ?hyg5⟩) (by assumption) ?restg5
            case hyg5 => first | (intro w hSw; (try dsimp only at hSw); go_simp; done) | (intro w hSw; (try dsimp only at hSw); go_simp; with_reducible rfl)
            try simp only [Act.put, List.setIfInBounds_toArray, List.set_cons_zero, List.set_cons_succ]
            refine wpAnyK_take (i := 6) (oi := { dst := some 58, op := Op.load 27 (Operand.tmp 2), type := 27, pos := "look.go:42", after := #[], guard := none }) (v := ?vg6) rfl (by kernel_rfl) (by kernel_rfl) (by kernel_rfl) (by kernel_rfl) (fun _ _ _ h => h) (Or.inl ⟨by rfl, ?hyg6⟩) (by assumption) ?restg6
            case hyg6 => first | (intro w hSw; (try dsimp only at hSw); go_simp; done) | (intro w hSw; (try dsimp only at hSw); go_simp; with_reducible rfl)
            try simp only [Act.put, List.setIfInBounds_toArray, List.set_cons_zero, List.set_cons_succ]
            refine wpAnyK_take (i := 7) (oi := { dst := some 59, op := Op.move (Operand.tmp 14), type := 3, pos := "look.go:42", after := #[], guard := none }) (v := ?vg7) rfl (by kernel_rfl) (by kernel_rfl) (by kernel_rfl) (by kernel_rfl) (fun _ _ _ h => h) (Or.inl ⟨by rfl, ?hyg7⟩) (by assumption) ?restg7
            case hyg7 => first | (intro w hSw; (try dsimp only at hSw); go_simp; done) | (intro w hSw; (try dsimp only at hSw); go_simp; with_reducible rfl)
            try simp only [Act.put, List.setIfInBounds_toArray, List.set_cons_zero, List.set_cons_succ]
            refine wpAnyK_ready (rs := [8]) (by kernel_rfl) (by simp) ?_
            refine AllReadyK.cons (o := { dst := some 60, op := Op.call { callee := Callee.value (Operand.func 38), args := #[Operand.tmp 58, Operand.tmp 59], argTypes := #[27, 3] }, type := 3, pos := "look.go:42", after := #[{ on := 6, ground := Ground.data }, { on := 7, ground := Ground.data }], guard := none }) rfl (fun K hK => ?_) AllReadyK.nil
            go_simp
            ((refine (hnfty.out _ (below_drewN _ wr 1)).mono ?_); rintro rn wn ⟨rfl, rfl⟩)
            refine hK.out _ _ (.inr ?_) (fun hHeld0 => ?_)
            · exact hHeld
            have hHeld := hHeld0.resolve_left (by decide)
            clear hHeld0 hK K
            try simp only [Act.put, List.setIfInBounds_toArray, List.set_cons_zero, List.set_cons_succ]
            refine wpAnyK_take (i := 9) (oi := { dst := some 61, op := Op.binOp BinOp.mul 3 (Operand.tmp 57) (Operand.tmp 60) 3, type := 3, pos := "look.go:42", after := #[{ on := 5, ground := Ground.data }, { on := 8, ground := Ground.data }], guard := none }) (v := ?vg9) rfl (by kernel_rfl) (by kernel_rfl) (by kernel_rfl) (by kernel_rfl) (fun _ _ _ h => h) (Or.inl ⟨by rfl, ?hyg9⟩) (by assumption) ?restg9
            case hyg9 => first | (intro w hSw; (try dsimp only at hSw); go_simp; done) | (intro w hSw; (try dsimp only at hSw); go_simp; with_reducible rfl)
            try simp only [Act.put, List.setIfInBounds_toArray, List.set_cons_zero, List.set_cons_succ]
            refine wpAnyK_take (i := 10) (oi := { dst := some 62, op := Op.binOp BinOp.add 3 (Operand.tmp 56) (Operand.tmp 61) 3, type := 3, pos := "look.go:42", after := #[{ on := 4, ground := Ground.data }, { on := 9, ground := Ground.data }], guard := none }) (v := ?vg10) rfl (by kernel_rfl) (by kernel_rfl) (by kernel_rfl) (by kernel_rfl) (fun _ _ _ h => h) (Or.inl ⟨by rfl, ?hyg10⟩) (by assumption) ?restg10
            case hyg10 => first | (intro w hSw; (try dsimp only at hSw); go_simp; done) | (intro w hSw; (try dsimp only at hSw); go_simp; with_reducible rfl)
            try simp only [Act.put, List.setIfInBounds_toArray, List.set_cons_zero, List.set_cons_succ]
            refine wpAnyK_ready (rs := [11]) (by kernel_rfl) (by simp) ?_
            refine AllReadyK.cons (o := { dst := some 63, op := Op.call { callee := Callee.value (Operand.tmp 54), args := #[Operand.tmp 55, Operand.tmp 62], argTypes := #[3, 3] }, type := 32, pos := "look.go:42", after := #[{ on := 2, ground := Ground.data }, { on := 3, ground := Ground.data }, { on := 10, ground := Ground.data }, { on := 8, ground := Ground.chain }], guard := none }) rfl (fun K hK => ?_) AllReadyK.nil
            go_simp
            ((refine (hcall.out _ (below_drewN _ wr 1)).mono ?_); rintro rk wc ⟨cs, rfl, hbc, hrdc⟩)
            have hbc2 := (below_drewN wr.heap.size wr 1).trans hbc
            obtain ⟨x0, x1, x2, x3, rfl, hx14⟩ := cells4 hrdc.now
            have hTc := hin.tb.below hbc2
            have ⟨_, _, _, _, t3, tf⟩ := hTc
            have h1c := h1.below hbc2
            refine hK.out _ _ (.inr ?_) (fun hHeld0 => ?_)
            · exact ⟨t3, h1c.f, h1c.s⟩
            have hHeld := hHeld0.resolve_left (by decide)
            clear hHeld0 hK K
            try simp only [Act.put, List.setIfInBounds_toArray, List.set_cons_zero, List.set_cons_succ]
            refine wpAnyK_ready (rs := [12]) (by kernel_rfl) (by simp) ?_
            refine AllReadyK.cons (o := { dst := some 64, op := Op.buildSlice 30 1 #[(0, Operand.tmp 63)], type := 30, pos := "look.go:42", after := #[{ on := 11, ground := Ground.data }], guard := none }) rfl (fun K hK => ?_) AllReadyK.nil
            go_simp
            have hba := below_alloc wc (.cells #[x0, x1, x2, x3] 32)
            have hTa := hTc.below hba
            have ⟨_, _, _, _, ta3, _⟩ := hTa
            have h1a := h1c.below hba
            refine hK.out _ _ (.inr ?_) (fun hHeld0 => ?_)
            · exact ⟨ta3, h1a.f, h1a.s⟩
            have hHeld := hHeld0.resolve_left (by decide)
            clear hHeld0 hK K
            try simp only [Act.put, List.setIfInBounds_toArray, List.set_cons_zero, List.set_cons_succ]
            refine wpAnyK_ready (rs := [13]) (by kernel_rfl) (by simp) ?_
            refine AllReadyK.cons (o := { dst := some 65, op := Op.call { callee := Callee.builtin Builtin.append, args := #[Operand.tmp 53, Operand.tmp 64], argTypes := #[30, 30] }, type := 30, pos := "look.go:42", after := #[{ on := 1, ground := Ground.data }, { on := 12, ground := Ground.data }, { on := 11, ground := Ground.chain }], guard := none }) rfl (fun K hK => ?_) AllReadyK.nil
            rw [if_pos (by rfl)]
            have hbca := via hbc2 hba
            have hown6 := own_beneath hin.own hbca
            have hsz6 : wk.heap.size ≤ (wc.alloc (.cells #[x0, x1, x2, x3] 32)).heap.size := Nat.le_trans hin.sz hbca.size
            refine wp_append_own_at _ (.tmp 53) (.tmp 64) 30 rfl wk.heap.size 32 iT _ 4 72 Tryd.underlying30 hiT hzT hsT hbT rfl (by omega) _ j _ rfl hown6 ⟨wc.heap.size, 0, none⟩ 1 1 [x0, x1, x2, x3] rfl rfl (news_at _ _ rfl #[x0, x1, x2, x3] 32) hx14 (by unfold maxLen; omega) (by omega) hsz6 ?_
            intro v7 w7 ho7 hg7 _ hat7
            obtain ⟨a7, c7, rfl⟩ := own_shape ho7
            have hne7 : ∀ b, b < wk.heap.size → (Value.slice ak j ck).ownBlock ≠ some b := fun b hb e => by have := (own_blk hin.own e).2; omega
            have hT7 := hTa.grown hg7 (hne7 B hBk)
            have ⟨_, _, _, _, u3, uf⟩ := hT7
            have uf3 := uf 3
            have hb7 : ∀ b, b < wr.heap.size → b < wk.heap.size → w7.heap[b]? = wr.heap[b]? := fun b h1 h2 => (hg7.block b (Nat.lt_of_lt_of_le h1 hbca.size) (fun e => hne7 b h2 e.symm)).trans (hbca.block b h1)
            refine hK.out _ _ (.inr ?_) (fun hHeld0 => ?_)
            · exact ⟨u3, (World.cell?_of_block (a := ⟨Ba, 0, none⟩) (hb7 Ba h1.la hlak)).trans h1.f, (World.cell?_of_block (a := ⟨Bs, 0, none⟩) (hb7 Bs h1.ls hlsk)).trans h1.s⟩
            have hHeld := hHeld0.resolve_left (by decide)
            clear hHeld0 hK K
            try simp only [Act.put, List.setIfInBounds_toArray, List.set_cons_zero, List.set_cons_succ]
            refine wpAnyK_take (i := 14) (oi := { dst := some 66, op := Op.fieldAddr 32 (Operand.tmp 15) 3, type := 0, pos := "look.go:42", after := #[{ on := 0, ground := Ground.phase }, { on := 1, ground := Ground.phase }, { on := 2, ground := Ground.phase }, { on := 3, ground := Ground.phase }, { on := 4, ground := Ground.phase }, { on := 5, ground := Ground.phase }, { on := 6, ground := Ground.phase }, { on := 7, ground := Ground.phase }, { on := 8, ground := Ground.phase }, { on := 9, ground := Ground.phase }, { on := 10, ground := Ground.phase }, { on := 11, ground := Ground.phase }, { on := 12, ground := Ground.phase }, { on := 13, ground := Ground.phase }], guard := none }) (v := ?vg14) rfl (by kernel_rfl) (by kernel_rfl) (by kernel_rfl) (by kernel_rfl) (fun _ _ _ h => h) (Or.inl ⟨by rfl, ?hyg14⟩) (by assumption) ?restg14
            case hyg14 => first | (intro w hSw; (try dsimp only at hSw); go_simp; done) | (intro w hSw; (try dsimp only at hSw); go_simp; with_reducible rfl)
            try simp only [Act.put, List.setIfInBounds_toArray, List.set_cons_zero, List.set_cons_succ]
            refine wpAnyK_ready (rs := [15]) (by kernel_rfl) (by simp) ?_
            refine AllReadyK.cons (o := { dst := none, op := Op.store 30 (Operand.tmp 66) (Operand.tmp 65), type := 0, pos := "look.go:42", after := #[{ on := 14, ground := Ground.data }, { on := 13, ground := Ground.data }, { on := 13, ground := Ground.chain }, { on := 0, ground := Ground.phase }, { on := 1, ground := Ground.phase }, { on := 2, ground := Ground.phase }, { on := 3, ground := Ground.phase }, { on := 4, ground := Ground.phase }, { on := 5, ground := Ground.phase }, { on := 6, ground := Ground.phase }, { on := 7, ground := Ground.phase }, { on := 8, ground := Ground.phase }, { on := 9, ground := Ground.phase }, { on := 10, ground := Ground.phase }, { on := 11, ground := Ground.phase }, { on := 12, ground := Ground.phase }, { on := 13, ground := Ground.phase }], guard := none }) rfl (fun K hK => ?_) AllReadyK.nil
            go_simp
            refine hK.out _ _ (.inl rfl) (fun hHeld0 => ?_)
            clear hHeld0 hK K
            try simp only [Act.put, List.setIfInBounds_toArray, List.set_cons_zero, List.set_cons_succ]
            refine wpAnyK_done (by kernel_rfl) ?_ _
            have hrel2 := hid (show InD G wi wk B n (.int .i64 (j + 1 : Nat)) _ from ⟨j + 1, _, _, by omega, rfl, hin.next hbc2 (hrdc.mono fun b hb e => e) rfl hba ho7 hg7 hat7⟩)
            go_wp2_with fail
            go_roundw
            case rel => exact hrel2.out
            case measure => simp [intOf] <;> omega
          · obtain rfl : j = n := by omega
            obtain ⟨w5, hw5⟩ : ∃ w5, w5 = wr := ⟨_, rfl⟩
            have hFe : (⟨0#64, ⟨#[]⟩, [], (List.range j).map G⟩ : Node (St (k0' + 1))) = F i := hFi'.out.symm
            have hF5 : FieldJ (⟨0#64, ⟨#[]⟩, [], (List.range j).map G⟩ : Node (St (k0' + 1))) wi w5 B (.int .u64 0) (.string ⟨#[]⟩) (.slice none 0 0) (.slice ak j ck) :=
              hw5 ▸ ⟨hin.bl, hin.tb, hin.read (by omega)⟩
            subst hw5
            clear k0 k1 k2 k3 kf hin
            have htv5 := hI.tv.below hF5.bl
            have ⟨_, v0, v1, v2, v3, vf⟩ := htv5
            have ⟨_, q0, q1, q2, q3, _⟩ := hF5.tb
            have hba5 := below_alloc w5 (.cells #[.int .u64 0, (.string ⟨#[]⟩), (.slice none 0 0), .slice ak j ck] 32)
            have hown5 := own_beneath hI.own (via hF5.bl hba5)
            have hle5 : w2.heap.size ≤ (w5.alloc (.cells #[.int .u64 0, (.string ⟨#[]⟩), (.slice none 0 0), .slice ak j ck] 32)).heap.size := Nat.le_trans hI.sz (via hF5.bl hba5).size
            have htv6 := htv5.below hba5
            have hvne : (Value.slice ao i co).ownBlock ≠ some V := fun e => by have := (own_blk hI.own e).2; have := hI.vr; omega
            go_wp2_with (at_builtin; go_must (refine wpList_append_own_at _ rfl (.tmp 106) (.tmp 108) 30 rfl w2.heap.size 32 iT _ 4 72 Tryd.underlying30 hiT hzT hsT hbT rfl (by omega) _ i _ rfl hown5 ⟨w5.heap.size, 0, none⟩ 1 1 [.int .u64 0, (.string ⟨#[]⟩), (.slice none 0 0), .slice ak j ck] rfl rfl (news_at _ _ rfl #[.int .u64 0, (.string ⟨#[]⟩), (.slice none 0 0), .slice ak j ck] 32) (by simp [Value.oneCell', U]) (by unfold maxLen; omega) (by omega) hle5 ?_); intro v7 w7 ho7 hg7 _ hat7; have ⟨_, _, _, _, y3, yf⟩ := htv6.grown hg7 hvne; have yf3 := yf 3; obtain ⟨a7, c7, rfl⟩ := own_shape ho7; have hrel2 := hid (show OutD F w w2 w.heap.size V N (.int .i64 (i + 1 : Nat)) _ from ⟨i + 1, _, _, by omega, rfl, hI.next hF5 hFe hba5 ho7 hg7 hat7⟩))
            go_roundw
            case rel => exact hrel2.out
            case measure => simp [intOf] <;> omega
    · obtain rfl : i = N := by omega
      have ⟨vlt, v0, v1, v2, v3, vf⟩ := hI.tv
      have ⟨rlt, r0, r1, r2, r3, rf⟩ := hI.tr
      have f0 := rf 0
      have f1 := rf 1
      have f2 := rf 2
      have f3 := rf 3
      have hR9 := (((hI.tr.set0 (.int .u64 0)).set1 (.string ⟨#[]⟩)).set2 (.slice none 0 0)).set3 (.slice ao i co)
      have hk9 : ∀ b, b ≠ w.heap.size → ((((wr.setCell ⟨w.heap.size, 0, none⟩ (.int .u64 0)).setCell ⟨w.heap.size, 1, none⟩ (.string ⟨#[]⟩)).setCell ⟨w.heap.size, 2, none⟩ (.slice none 0 0)).setCell ⟨w.heap.size, 3, none⟩ (.slice ao i co)).heap[b]? = wr.heap[b]? := fun b hb => by
        rw [Below.heap_setCell _ _ _ _ hb, Below.heap_setCell _ _ _ _ hb, Below.heap_setCell _ _ _ _ hb, Below.heap_setCell _ _ _ _ hb]
      have hfin := hI.done (by omega) hk9 (by simp [World.setCell])
      have hbl9 := (((hI.bl.setCell (p := ⟨w.heap.size, 0, none⟩) (Nat.le_refl _) (.int .u64 0)).setCell (p := ⟨w.heap.size, 1, none⟩) (Nat.le_refl _) (.string ⟨#[]⟩)).setCell (p := ⟨w.heap.size, 2, none⟩) (Nat.le_refl _) (.slice none 0 0)).setCell (p := ⟨w.heap.size, 3, none⟩) (Nat.le_refl _) (.slice ao i co)
      have Hfin := hid (And.intro hfin hbl9)
      clear rf vf hk9 hfin hbl9 a0 a1
      go_wp2_with fail
      clear r0 r1 r2 r3 f0 f1 f2 f3 v0 v1 v2 v3
      generalize (((wr.setCell ⟨w.heap.size, 0, none⟩ (.int .u64 0)).setCell ⟨w.heap.size, 1, none⟩ (.string ⟨#[]⟩)).setCell ⟨w.heap.size, 2, none⟩ (.slice none 0 0)).setCell ⟨w.heap.size, 3, none⟩ (.slice ao i co) = w9 at *
      have ⟨_, r0, r1, r2, r3, _⟩ := hR9
      (try simp only [Exit.inBlock, Exit.then])
      refine bodyPost_ret (by simp [results, Tryd.results77, go_sem, r0, r1, r2, r3]; try rfl) rfl ?_
      obtain ⟨g1, g3⟩ := Hfin.out
      unfold DecP
      rw [Hgoal.out]
      exact ⟨_, rfl, g3, g1⟩

theorem at_any (s : Schema) (hr : rightB s = true) (ws : List (BitVec 64)) (hL0 : 0 < ws.length) (hL200 : ws.length ≤ 200) (sv wv : Value) : ∀ (k : Nat) (t : Int) (p : Nat) (w : World) (Bs Bw Ba : Nat), CapB w Bs Bw Ba sv wv → Sch w sv s → Row w 1 wv ws.length (ws.map U) → VisOk s ws k t p →
    Calls Tryd.prog 77 #[.int .i64 t, .int .i64 p, .pointer (some ⟨Bs, 0, none⟩), .pointer (some ⟨Bw, 0, none⟩), .pointer (some ⟨Ba, 0, none⟩)] w (DecP s ws k t p w) := by
  intro k
  induction k with
  | zero => exact at_step s hr ws hL0 hL200 sv wv 0 (fun k0 h => by omega)
  | succ k ih => exact at_step s hr ws hL0 hL200 sv wv (k + 1) (fun k0 h => by
      obtain rfl : k0 = k := by omega
      exact ih)
end SDecode

end Go.Proofs.YtblbhlgihlgncaaDoor


/- tree.Size's closure, that adds up words. -/
import Derived.Test.YtmcpanjpjnlleaaDoorRSize
import Derived.Test.YtmcpanjpjnlleaaDoorOwn
import Derived.StillTailTactics
set_option linter.unusedVariables false
namespace Go.Proofs.YtmcpanjpjnlleaaDoor
open Go.RowKit

/-- The two variables that the closure captures: how many words there are; itself. -/
structure AddS (w0 w : World) (Bn Bf T : Nat) : Prop where
  n : w.cell? ⟨Bn, 0, none⟩ = some (.int .i64 T)
  fz : w.frozen? ⟨Bn, 0, none⟩ = false
  f : w.cell? ⟨Bf, 0, none⟩ = some (.func (.func 36) #[] #[.pointer (some ⟨Bn, 0, none⟩), .pointer (some ⟨Bf, 0, none⟩)])
  hn : w0.heap.size ≤ Bn
  ln : Bn < w.heap.size
  lf : Bf < w.heap.size
  ne : Bn ≠ Bf
  bl : Below w0.heap.size w0 w

theorem AddS.below {w0 w w' : World} {Bn Bf T : Nat} (h : AddS w0 w Bn Bf T) (hb : Below w.heap.size w w') : AddS w0 w' Bn Bf T :=
  ⟨(hb.cell h.ln).trans h.n, (hb.frozen h.ln).trans h.fz, (hb.cell h.lf).trans h.f, h.hn, Nat.lt_of_lt_of_le h.ln hb.size, Nat.lt_of_lt_of_le h.lf hb.size, h.ne, h.bl.trans (hb.mono h.bl.size)⟩

theorem AddS.store {w0 w : World} {Bn Bf T : Nat} (h : AddS w0 w Bn Bf T) (T2 : Nat) : AddS w0 (w.setCell ⟨Bn, 0, none⟩ (.int .i64 T2)) Bn Bf T2 := by
  obtain ⟨h1, h2, h3, h4, h5, h6, h7, h8⟩ := h
  refine ⟨by simp [go_sem, h1], by simp [go_sem, h2], by simp [go_sem, h3], h4, by simpa using h5, by simpa using h6, h7, h8.setCell h4 _⟩

def AddP (w0 w : World) (Bn Bf T : Nat) (e : Ending) (w' : World) : Prop := e = .returned (.tuple #[]) ∧ AddS w0 w' Bn Bf T ∧ w.grownBy w' (some Bn)

set_option maxRecDepth 100000 in
set_option maxHeartbeats 4000000 in
theorem add_any (d : Nat) : ∀ (v : St d) (cs : List Value) (w0 w : World) (Bn Bf T : Nat), T + wordsT d v ≤ LIM → RdS d w0 cs v → AddS w0 w Bn Bf T →
    Calls Tryd.prog 36 #[.agg cs.toArray, .pointer (some ⟨Bn, 0, none⟩), .pointer (some ⟨Bf, 0, none⟩)] w (AddP w0 w Bn Bf (T + wordsT d v)) := by
  induction d with
  | zero => exact fun v _ _ _ _ _ _ _ _ _ => nomatch v
  | succ d ihd =>
    intro v cs w0 w Bn Bf T hL h hS
    have ih := hid ihd
    clear ihd
    obtain ⟨a2, p2, a, cap, rfl, hbs, hn, hk, hnm, hkm⟩ := RdN.open h
    clear h hn hbs hnm
    obtain ⟨N, hN⟩ : ∃ N, N = (Node.kids v).length := ⟨_, rfl⟩
    rw [← hN] at hk hkm ⊢
    have HN := hid hN
    have hlim := lim_le
    have Hw := hid (show wordsT (d + 1) v = N + sumL (wordsF (wordsT d)) (Node.kids v) by rw [wordsT_succ, hN])
    rw [Hw.out] at hL ⊢
    clear hN
    obtain ⟨w1, hw1, hb1, hlt1, hbox⟩ := boxed w #[U (Node.num v), .string (Node.bytes v), .slice a2 (Node.nums v).length p2, .slice a N cap] 34
    have x3 : w1.cell? ⟨w.heap.size, 3, none⟩ = some (.slice a N cap) := hbox 3
    have hS1 := hS.below hb1
    have c1 := hS1.n
    have c2 := hS1.fz
    have hTN : T + N ≤ 4611686018427387904 := by omega
    have hneD : Bn ≠ w.heap.size := by have := hS.ln; omega
    have hS2 := hS1.store (T + N)
    have hg2 : w.grownBy (w1.setCell ⟨Bn, 0, none⟩ (.int .i64 (T + N : Nat))) (some Bn) := grown_set (grown_below (World.grownBy.refl _ _) hb1) (.inr rfl) _
    have hcast : Value.int .i64 ((T : Int) + (N : Int)) = .int .i64 ((T + N : Nat) : Int) := by congr 1
    rw [← hcast] at hS2 hg2
    have Hcast := hid hcast
    have HS2 := hid hS2
    have Hg2 := hid hg2
    have HL := hid hL
    have Hlim := hid hlim
    clear hbox hL hlim hS hS1 hb1 hcast hS2 hg2
    go_enter Tryd.func36, Tryd.ntmps36
    go_wp2_with fail
    clear hw1 x3 c1 c2 hneD
    go_loopw [16] (fun i wr => ∃ k T1 : Nat, k ≤ N ∧ i = .int .i64 k ∧ T1 = T + N + sumL (wordsF (wordsT d)) ((Node.kids v).take k) ∧ AddS w0 wr Bn Bf T1 ∧ w.grownBy wr (some Bn)) (fun i _ => N - (intOf i).toNat)
    case atStart => exact ⟨0, T + N, Nat.zero_le _, rfl, by simp [sumL], HS2.out, Hg2.out⟩
    case round =>
      clear HS2 Hg2
      obtain ⟨k, T1, hkN, rfl, hT1, hS, hg⟩ := hrel
      by_cases hlt : k < N
      · obtain ⟨fk, hfk⟩ := get_lt (l := Node.kids v) (i := k) (by rw [← HN.out]; exact hlt)
        obtain ⟨b, off, a4, p4, a5, p5, rfl, hbb, q0, q1, q2, q3, hfb, hfn, hfkk, _, hfnn, hfm⟩ := Kids.at_ (hk.below (kept_N (kept_S d)) hS.bl (Nat.le_refl _)) hfk
        have hfk0 : Kids (RdS d) w0 (.slice a5 fk.kids.length p5) fk.kids := by
          obtain ⟨b', off', a4', p4', a5', p5', e, hbb', _, _, _, q3', _, _, hfkk', _⟩ := Kids.at_ hk hfk
          have e2 := (hS.bl.cell (p := ⟨b', off' + k * 4 + 3, none⟩) hbb').trans q3'
          simp only [Option.some.injEq, Addr.mk.injEq] at e
          obtain ⟨e3, e4, _⟩ := e
          subst e3 e4
          rw [q3] at e2
          simp only [Option.some.injEq, Value.slice.injEq] at e2
          obtain ⟨rfl, _, rfl⟩ := e2
          exact hfkk'
        have hsum := sumL_get_le (wordsF (wordsT d)) (Node.kids v) k fk hfk
        have Hsucc := hid (sumL_succ (wordsF (wordsT d)) (Node.kids v) k fk hfk)
        have hfw : wordsF (wordsT d) fk = (fk.bytes.size + 7) / 8 + fk.nums.length + sumL (wordsT d) fk.kids := rfl
        rw [hfw] at hsum
        have Hfw := hid hfw
        obtain ⟨M, hM⟩ : ∃ M, M = fk.kids.length := ⟨_, rfl⟩
        obtain ⟨R, hR⟩ : ∃ R, R = fk.nums.length := ⟨_, rfl⟩
        rw [← hM] at hfk0 hfm q3
        rw [← hR] at hfnn q2 hsum
        have HM := hid hM
        have HR := hid hR
        have hcq := count_q fk.bytes.size hfb
        have hc8 : (fk.bytes.size + 7) / 8 ≤ 1000 := by omega
        have h0 := HL.out
        have h00 := Hlim.out
        have Hz := hid (show ∀ j, T1 + (fk.bytes.size + 7) / 8 + R + sumL (wordsT d) (fk.kids.take j) ≤ LIM from fun j => by have := sumL_take_le (wordsT d) fk.kids j; omega)
        have HzN := hid (show T1 + (fk.bytes.size + 7) / 8 + R ≤ LIM by omega)
        have HT := hid hT1
        generalize hcg : (fk.bytes.size + 7) / 8 = c at *
        have Hcg := hid hcg
        clear hM hR hfk hfn hfw hsum hcg h0 h00 hT1 hfkk
        have hA : T1 + c + R ≤ 4611686018427387904 := by have := HzN.out; have := Hlim.out; omega
        obtain ⟨wk, hwk, hbk, hltk, hboxk⟩ := boxed wr #[U fk.num, .string fk.bytes, .slice a4 R p4, .slice a5 M p5] 34
        have k1 : wk.cell? ⟨wr.heap.size, 1, none⟩ = some (.string fk.bytes) := hboxk 1
        have k2 : wk.cell? ⟨wr.heap.size, 2, none⟩ = some (.slice a4 R p4) := hboxk 2
        have k3 : wk.cell? ⟨wr.heap.size, 3, none⟩ = some (.slice a5 M p5) := hboxk 3
        have hSk := hS.below hbk
        have c1 := hSk.n
        have c2 := hSk.fz
        have hneD : Bn ≠ wr.heap.size := by have := hS.ln; omega
        have hgk := grown_below hg hbk
        have hw1' : IntKind.i64.wrap ((c : Int) + (R : Int)) = (c : Int) + R := IntWalk.i64_in _ (by omega)
        have hw2' : IntKind.i64.wrap ((T1 : Int) + ((c : Int) + (R : Int))) = (T1 : Int) + (c + R) := IntWalk.i64_in _ (by omega)
        clear hboxk
        go_wp2_with fail
        clear hwk
        go_still_tail 10, (by kernel_rfl)
        still_call (hcq _)
        repeat still_step
        try refine wpStill_nil ?_
        obtain ⟨vv, hvv⟩ : ∃ vv : Value, vv = .int .i64 ((T1 + c + R : Nat) : Int) := ⟨_, rfl⟩
        have hvi : vv = .int .i64 ((T1 : Int) + (c : Int) + (R : Int)) := by rw [hvv]; congr 1
        have hb5 : Below (wk.setCell ⟨Bn, 0, none⟩ vv).heap.size (wk.setCell ⟨Bn, 0, none⟩ vv) (wk.setCell ⟨Bn, 0, none⟩ vv).drew := below_drewN _ _ 1
        have hgs : w.grownBy (wk.setCell ⟨Bn, 0, none⟩ vv).drew (some Bn) := grown_below (grown_set hgk (.inr rfl) _) hb5
        have hSs : AddS w0 (wk.setCell ⟨Bn, 0, none⟩ vv).drew Bn Bf (T1 + c + R) := by rw [hvv] at hb5 ⊢; exact (hSk.store _).below hb5
        have hk3s : (wk.setCell ⟨Bn, 0, none⟩ vv).drew.cell? ⟨wr.heap.size, 3, none⟩ = some (.slice a5 M p5) := by
          show (wk.setCell ⟨Bn, 0, none⟩ vv).cell? ⟨wr.heap.size, 3, none⟩ = _
          rw [World.cell?_setCell_other _ _ _ _ (by simp)]; exact k3
        have hlt3 : wr.heap.size < (wk.setCell ⟨Bn, 0, none⟩ vv).drew.heap.size := by
          show wr.heap.size < (wk.setCell ⟨Bn, 0, none⟩ vv).heap.size
          simpa using hltk
        have hcast : Value.int .i64 ((T1 : Int) + ((c : Int) + (R : Int))) = .int .i64 ((T1 : Int) + (c : Int) + (R : Int)) := by congr 1; omega
        rw [hvi] at hgs hSs hk3s hlt3
        have Hgs := hid hgs
        have HSs := hid hSs
        clear hvv hvi hb5 hgs hSs k1 k2 hcq hw1' hw2' q0 q1 q2 q3 hSk hgk hS hg hbk
        go_wp2_with fail
        have hgs := Hgs.out
        have hSs := HSs.out
        clear Hgs HSs k3 hltk c1 c2 hneD hcast
        generalize ((wk.setCell ⟨Bn, 0, none⟩ (.int .i64 ((T1 : Int) + (c : Int) + (R : Int)))).drew) = w5 at *
        obtain ⟨wo, rfl⟩ : ∃ wo : World, wo = wr := ⟨_, rfl⟩
        go_loopw [33] (fun i wr => ∃ j T2 : Nat, j ≤ M ∧ i = .int .i64 j ∧ T2 = T1 + c + R + sumL (wordsT d) (fk.kids.take j) ∧ AddS w0 wr Bn Bf T2 ∧ w.grownBy wr (some Bn)) (fun i _ => M - (intOf i).toNat)
        case atStart => exact ⟨0, T1 + c + R, Nat.zero_le _, rfl, by simp [sumL], hSs, hgs⟩
        case round =>
          clear hSs hgs hk3s
          obtain ⟨j, T2, hjM, rfl, hT2, hS3, hg3⟩ := hrel
          by_cases hjl : j < M
          · obtain ⟨x, hx⟩ := get_lt (l := fk.kids) (i := j) (by rw [← HM.out]; exact hjl)
            obtain ⟨b2, off2, xn, xb, e2, m2, s2, e3, m3, s3, rfl, hbb2, q0, q1, q2, q3, hrx⟩ := Kids.atS (hfk0.below (kept_S d) hS3.bl (Nat.le_refl _)) hx
            have hrx0 : RdS d w0 [U xn, .string xb, .slice e2 m2 s2, .slice e3 m3 s3] x := by
              obtain ⟨b', off', xn', xb', e2', m2', s2', e3', m3', s3', e, hbb', g0, g1, g2, g3, hr⟩ := Kids.atS hfk0 hx
              simp only [Option.some.injEq, Addr.mk.injEq] at e
              obtain ⟨e4, e5, _⟩ := e
              subst e4 e5
              have d0 := (hS3.bl.cell (p := ⟨b2, off2 + j * 4, none⟩) hbb').trans g0
              have d1 := (hS3.bl.cell (p := ⟨b2, off2 + j * 4 + 1, none⟩) hbb').trans g1
              have d2 := (hS3.bl.cell (p := ⟨b2, off2 + j * 4 + 2, none⟩) hbb').trans g2
              have d3 := (hS3.bl.cell (p := ⟨b2, off2 + j * 4 + 3, none⟩) hbb').trans g3
              rw [q0] at d0; rw [q1] at d1; rw [q2] at d2; rw [q3] at d3
              rw [Option.some.inj d0, Option.some.inj d1, Option.some.inj d2, Option.some.inj d3]
              exact hr
            have hle := sumL_get_le (wordsT d) fk.kids j x hx
            have Hsx := hid (sumL_succ (wordsT d) fk.kids j x hx)
            have hzj := Hz.out (j + 1)
            rw [Hsx.out] at hzj
            have hwx : T2 + wordsT d x ≤ LIM := by omega
            obtain ⟨wx, hwxe, hbx, hltx, hboxx⟩ := boxed wr #[U xn, .string xb, .slice e2 m2 s2, .slice e3 m3 s3] 34
            have z0 : wx.cell? ⟨wr.heap.size, 0, none⟩ = some (U xn) := hboxx 0
            have z1 : wx.cell? ⟨wr.heap.size, 1, none⟩ = some (.string xb) := hboxx 1
            have z2 : wx.cell? ⟨wr.heap.size, 2, none⟩ = some (.slice e2 m2 s2) := hboxx 2
            have z3 : wx.cell? ⟨wr.heap.size, 3, none⟩ = some (.slice e3 m3 s3) := hboxx 3
            have hSx := hS3.below hbx
            have cf := hSx.f
            have hcall := ih.out x _ w0 wx Bn Bf T2 hwx hrx0 hSx
            have hgx := grown_below hg3 hbx
            have HT2 := hid hT2
            clear hT2 hx hle hzj hwx hrx hrx0 hfk0 hboxx hS3 hSx hg3
            generalize wordsT d x = wxn at *
            go_wp2_with fail
            ((refine hcall.mono ?_); rintro e1 w6 ⟨rfl, hS6, hg6⟩)
            have hg7 := grown_more hgx hg6 (fun g e => .inr e)
            clear hwxe
            go_wp2_with fail
            go_roundw
            case rel => exact ⟨j + 1, T2 + wxn, by omega, by go_num, by rw [Hsx.out, HT2.out]; omega, hS6, hg7⟩
            case measure => simp [intOf] <;> omega
          · obtain rfl : j = M := by omega
            have Hend := hid (show T2 = T + N + sumL (wordsF (wordsT d)) ((Node.kids v).take (k + 1)) by
              have e1 : fk.kids.take j = fk.kids := List.take_of_length_le (by rw [← HM.out]; exact Nat.le_refl _)
              have e2 := Hsucc.out
              have e3 := Hfw.out
              rw [e1] at hT2
              rw [e2, e3, ← HR.out, hT2, HT.out]; omega)
            clear hT2 hfk0
            go_wp2_with fail
            go_roundw
            case rel => exact ⟨k + 1, T2, by omega, by go_num, Hend.out, hS3, hg3⟩
            case measure => simp [intOf] <;> omega
      · obtain rfl : k = N := by omega
        have Hend := hid (show AddP w0 w Bn Bf (T + (k + sumL (wordsF (wordsT d)) (Node.kids v))) (.returned (.tuple #[])) wr from
          ⟨rfl, by rw [show T + (k + sumL (wordsF (wordsT d)) (Node.kids v)) = T1 by rw [hT1, List.take_of_length_le (by rw [← HN.out]; exact Nat.le_refl _)]; omega]; exact hS, hg⟩)
        clear hk hT1 hS hg
        go_wp2_with fail
        go_returns
        exact Hend.out
end Go.Proofs.YtmcpanjpjnlleaaDoor


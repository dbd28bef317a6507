/- The document's words, Size, of trees. -/
import Derived.Test.YtmcpanjpjnlleaaDoorRTCheck
import Derived.Test.YtmcpanjpjnlleaaDoorRefCount
import Derived.Test.YtmcpanjpjnlleaaDoorBitsCount
set_option linter.unusedVariables false
namespace Go.Proofs.YtmcpanjpjnlleaaDoor
open Go.RowKit

theorem countV_eq (m : Nat) : countV m = ((m + 7) / 8 : Nat) := by unfold countV; split <;> omega
theorem rcount_q (m : Nat) (hm : m ≤ 1000) (w : World) : Calls Tryd.prog 69 #[.int .i64 m] w fun e w' => e = .returned (.int .i64 ((m + 7) / 8 : Nat)) ∧ w' = w :=
  (rcount_any m w ⟨by omega, by omega⟩).mono fun e w' ⟨h1, h2⟩ => ⟨by rw [h1, countV_eq], h2.symm⟩
theorem count_q (m : Nat) (hm : m ≤ 1000) (w : World) : Calls Tryd.prog 37 #[.int .i64 m] w fun e w' => e = .returned (.int .i64 ((m + 7) / 8 : Nat)) ∧ w' = w :=
  (count_any m w ⟨by omega, by omega⟩).mono fun e w' ⟨h1, h2⟩ => ⟨by rw [h1, countV_eq], h2.symm⟩

def wordsF {K : Type} (f : K → Nat) (k : Node K) : Nat := (k.bytes.size + 7) / 8 + k.nums.length + sumL f k.kids
theorem wordsT_succ (d : Nat) (v : St (d + 1)) : wordsT (d + 1) v = (Node.kids v).length + sumL (wordsF (wordsT d)) (Node.kids v) := rfl
theorem sumL_take_le {α : Type} (f : α → Nat) (l : List α) (i : Nat) : sumL f (l.take i) ≤ sumL f l := by
  have key : ∀ (l : List α) (m : Nat), m ≤ l.foldl (fun m x => m + f x) m := by
    intro l
    induction l with
    | nil => intro m; exact Nat.le_refl _
    | cons x l ih => intro m; exact Nat.le_trans (Nat.le_add_right _ _) (ih _)
  have h := key (l.drop i) (sumL f (l.take i))
  have e : sumL f l = (l.drop i).foldl (fun m x => m + f x) (sumL f (l.take i)) := by
    unfold sumL; rw [← List.foldl_append, List.take_append_drop]
  rw [e]; exact h
theorem sumL_get_le {α : Type} (f : α → Nat) (l : List α) (i : Nat) (x : α) (h : l[i]? = some x) : sumL f (l.take i) + f x ≤ sumL f l := by
  rw [← sumL_succ f l i x h]; exact sumL_take_le f l _

def LIM : Nat := 1000000000000
theorem lim_le : LIM ≤ 4611686018427387904 := by unfold LIM; omega

set_option maxHeartbeats 4000000 in
theorem words_any (d : Nat) : ∀ (v : St d) (hL : wordsT d v ≤ LIM) (cs : List Value) (w : World), RdS d w cs v →
    Calls Tryd.prog 58 #[.agg cs.toArray] w fun r w' => r = .returned (.int .i64 (wordsT d v)) ∧ Below w.heap.size w w' := by
  induction d with
  | zero => exact fun v _ _ _ _ => nomatch v
  | succ d ihd =>
    intro v hL cs w h
    have ih := hid ihd
    clear ihd
    obtain ⟨a2, p2, a, cap, rfl, hbs, hn, hk, hnm, hkm⟩ := RdN.open h
    clear h hn hbs hnm
    obtain ⟨N, hN⟩ : ∃ N, N = (Node.kids v).length := ⟨_, rfl⟩
    rw [← hN] at hk hkm ⊢
    have HN := hid hN
    have hlim := lim_le
    have Hw := hid (show wordsT (d + 1) v = N + sumL (wordsF (wordsT d)) (Node.kids v) by rw [wordsT_succ, hN])
    rw [Hw.out] at hL
    clear hN
    obtain ⟨w1, hw1, hb1, hlt1, hbox⟩ := boxed w #[U (Node.num v), .string (Node.bytes v), .slice a2 (Node.nums v).length p2, .slice a N cap] 34
    have x3 : w1.cell? ⟨w.heap.size, 3, none⟩ = some (.slice a N cap) := hbox 3
    have hk1 := hk.below (kept_N (kept_S d)) hb1 (Nat.le_refl _)
    have HL := hid hL
    have Hlim := hid hlim
    clear hbox hk hL hlim
    rw [Hw.out]
    go_enter Tryd.func58, Tryd.ntmps58
    go_wp2_with fail
    clear hw1
    go_loopw [3, 4] (fun n i wr => ∃ k T : Nat, k ≤ N ∧ i = .int .i64 k ∧ n = .int .i64 T ∧ T = N + sumL (wordsF (wordsT d)) ((Node.kids v).take k) ∧ Below w1.heap.size w1 wr) (fun _ i _ => N - (intOf i).toNat)
    case atStart => exact ⟨0, N, Nat.zero_le _, rfl, rfl, by simp [sumL], Below.refl _ _⟩
    case round =>
      obtain ⟨k, T, hkN, rfl, rfl, hT, hbl⟩ := hrel
      have y3 := (hbl.cell (p := ⟨w.heap.size, 3, none⟩) hlt1).trans x3
      by_cases hlt : k < N
      · obtain ⟨fk, hfk⟩ := get_lt (l := Node.kids v) (i := k) (by rw [← HN.out]; exact hlt)
        obtain ⟨b, off, a4, p4, a5, p5, rfl, hbb, q0, q1, q2, q3, hfb, hfn, hfkk, _, hfnn, hfm⟩ := Kids.at_ (hk1.below (kept_N (kept_S d)) hbl (Nat.le_refl _)) hfk
        have hsum := sumL_get_le (wordsF (wordsT d)) (Node.kids v) k fk hfk
        have Hsucc := hid (sumL_succ (wordsF (wordsT d)) (Node.kids v) k fk hfk)
        have hfw : wordsF (wordsT d) fk = (fk.bytes.size + 7) / 8 + fk.nums.length + sumL (wordsT d) fk.kids := rfl
        rw [hfw] at hsum
        have Hfw := hid hfw
        obtain ⟨M, hM⟩ : ∃ M, M = fk.kids.length := ⟨_, rfl⟩
        obtain ⟨R, hR⟩ : ∃ R, R = fk.nums.length := ⟨_, rfl⟩
        rw [← hM] at hfkk hfm q3
        rw [← hR] at hfnn q2 hsum
        have HM := hid hM
        have HR := hid hR
        have hcq := rcount_q fk.bytes.size hfb
        have hc8 : (fk.bytes.size + 7) / 8 ≤ 1000 := by omega
        have h0 := HL.out
        have h00 := Hlim.out
        have Hz := hid (show ∀ j, T + (fk.bytes.size + 7) / 8 + R + sumL (wordsT d) (fk.kids.take j) ≤ LIM from fun j => by have := sumL_take_le (wordsT d) fk.kids j; omega)
        have HzN := hid (show T + (fk.bytes.size + 7) / 8 + R ≤ LIM by omega)
        have HT := hid hT
        generalize hcg : (fk.bytes.size + 7) / 8 = c at *
        have Hcg := hid hcg
        clear hM hR hfk hfn hfw hsum hcg h0 h00 hT
        have hA : T + c + R ≤ 4611686018427387904 := by have := HzN.out; have := Hlim.out; omega
        obtain ⟨wk, hwk, hbk, hltk, hboxk⟩ := boxed wr #[U fk.num, .string fk.bytes, .slice a4 R p4, .slice a5 M p5] 34
        have k1 : wk.cell? ⟨wr.heap.size, 1, none⟩ = some (.string fk.bytes) := hboxk 1
        have k2 : wk.cell? ⟨wr.heap.size, 2, none⟩ = some (.slice a4 R p4) := hboxk 2
        have k3 : wk.cell? ⟨wr.heap.size, 3, none⟩ = some (.slice a5 M p5) := hboxk 3
        have hbl1 := hbl.trans (hbk.mono hbl.size)
        have hfk1 := hfkk.below (kept_S d) hbk (Nat.le_refl _)
        have hw1' : IntKind.i64.wrap ((T : Int) + (c : Int)) = (T : Int) + c := IntWalk.i64_in _ (by omega)
        have hw2' : IntKind.i64.wrap ((T : Int) + (c : Int) + (R : Int)) = (T : Int) + c + R := IntWalk.i64_in _ (by omega)
        clear hboxk hfkk
        go_wp2_with fail
        clear hwk
        go_quiet ((go_at_call 69; exact Calls.quiet_of_same (hcq _)))
        have hbl2 : Below w1.heap.size w1 (wk.drewN nq) := hbl1.trans (below_drewN _ _ _)
        have hfk2 := hfk1.below (B := wk.heap.size) (kept_S d) (below_drewN _ _ nq) (Nat.le_refl _)
        have hlt2 : wr.heap.size < (wk.drewN nq).heap.size := hltk
        have k3' : (wk.drewN nq).cell? ⟨wr.heap.size, 3, none⟩ = some (.slice a5 M p5) := k3
        clear hbl1 hfk1 k1 k2 hcq hw1' hw2' q0 q1 q2 q3 y3
        go_wp2_with fail
        generalize wk.drewN nq = w5 at *
        obtain ⟨wo, rfl⟩ : ∃ wo : World, wo = wr := ⟨_, rfl⟩
        go_loopw [3, 6] (fun n i wr => ∃ j T2 : Nat, j ≤ M ∧ i = .int .i64 j ∧ n = .int .i64 T2 ∧ T2 = T + c + R + sumL (wordsT d) (fk.kids.take j) ∧ Below w5.heap.size w5 wr) (fun _ i _ => M - (intOf i).toNat)
        case atStart => exact ⟨0, T + c + R, Nat.zero_le _, rfl, by congr 1, by simp [sumL], Below.refl _ _⟩
        case round =>
          obtain ⟨j, T2, hjM, rfl, rfl, hT2, hbj⟩ := hrel
          have m3' := (hbj.cell (p := ⟨wo.heap.size, 3, none⟩) hlt2).trans k3'
          have hT2b : T2 ≤ 4611686018427387904 := by have := Hz.out j; have := Hlim.out; omega
          by_cases hjl : j < M
          · obtain ⟨x, hx⟩ := get_lt (l := fk.kids) (i := j) (by rw [← HM.out]; exact hjl)
            obtain ⟨b2, off2, xn, xb, e2, m2, s2, e3, m3, s3, rfl, hbb2, q0, q1, q2, q3, hrx⟩ := Kids.atS (hfk2.below (kept_S d) hbj (Nat.le_refl _)) hx
            have hle := sumL_get_le (wordsT d) fk.kids j x hx
            have Hsx := hid (sumL_succ (wordsT d) fk.kids j x hx)
            have hzj := Hz.out (j + 1)
            rw [Hsx.out] at hzj
            have hlm := Hlim.out
            have hwx : wordsT d x ≤ LIM := by omega
            have hT3 : T2 + wordsT d x ≤ 4611686018427387904 := by omega
            have hcall := ih.out x hwx _ wr hrx
            have HT2 := hid hT2
            clear hT2 hx hle hzj hlm hwx hrx hfk2
            generalize wordsT d x = wx at *
            go_wp2_with fail
            ((refine hcall.mono ?_); rintro e1 w6 ⟨rfl, hb6⟩)
            go_wp2_with fail
            go_roundw
            case rel => exact ⟨j + 1, T2 + wx, by omega, by go_num, by congr 1, by rw [Hsx.out, HT2.out]; omega, hbj.trans (hb6.mono hbj.size)⟩
            case measure => simp [intOf] <;> omega
          · obtain rfl : j = M := by omega
            have HT2 := hid hT2
            have Hend := hid (show T2 = N + sumL (wordsF (wordsT d)) ((Node.kids v).take (k + 1)) by
              have e1 : fk.kids.take j = fk.kids := List.take_of_length_le (by rw [← HM.out]; exact Nat.le_refl _)
              have e2 := Hsucc.out
              have e3 := Hfw.out
              rw [e1] at hT2
              rw [e2, e3, ← HR.out, hT2, HT.out]; omega)
            clear hT2 hfk2
            go_wp2_with fail
            go_roundw
            case rel => exact ⟨k + 1, T2, by omega, by go_num, rfl, Hend.out, hbl2.trans (hbj.mono hbl2.size)⟩
            case measure => simp [intOf] <;> omega
      · obtain rfl : k = N := by omega
        have Hend := hid (show T = k + sumL (wordsF (wordsT d)) (Node.kids v) by rw [hT, List.take_of_length_le (by rw [← HN.out]; exact Nat.le_refl _)])
        clear hk1 hT
        go_wp2_with fail
        go_ret
        exact ⟨by rw [← Hend.out]; rfl, hb1.trans (hbl.mono hb1.size)⟩
end Go.Proofs.YtmcpanjpjnlleaaDoor


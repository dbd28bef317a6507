/- The document's Deep, of trees. -/
import Derived.Test.YtmcpanjpjnlleaaDoorTrDeep
set_option linter.unusedVariables false
namespace Go.Proofs.YtmcpanjpjnlleaaDoor
open Go.RowKit

/-- A box that a call lays first. -/
theorem boxed (w : World) (cs : Array Value) (T : TypeId) : ∃ w1, w.alloc (.cells cs T) = w1 ∧ Below w.heap.size w w1 ∧ w.heap.size < w1.heap.size ∧ ∀ j, w1.cell? ⟨w.heap.size, j, none⟩ = cs[j]? := by
  refine ⟨_, rfl, below_alloc _ _, by simp, fun j => ?_⟩
  have : (w.alloc (.cells cs T)).heap[w.heap.size]? = some (.cells cs T) := by show (w.heap.push _)[w.heap.size]? = _; simp
  simp only [World.cell?, this]
  rfl

set_option maxHeartbeats 4000000 in
theorem rdeep_any (d : Nat) : ∀ (hd : d ≤ 64) (t : St d) (cs : List Value) (w : World), RdS d w cs t →
    Calls Tryd.prog 19 #[.agg cs.toArray] w fun r w' => r = .returned (.int .i64 (deepT d t)) ∧ Below w.heap.size w w' := by
  induction d with
  | zero => exact fun _ t _ _ _ => nomatch t
  | succ d ihd =>
    intro hd t cs w h
    have ih := hid (ihd (by omega))
    clear ihd
    obtain ⟨a2, p2, a, cap, rfl, hbs, hn, hk, hnm, hkm⟩ := RdN.open h
    clear h hn hbs hnm
    obtain ⟨N, hN⟩ : ∃ N, N = (Node.kids t).length := ⟨_, rfl⟩
    rw [← hN] at hk hkm ⊢
    have HN := hid hN
    clear hN
    obtain ⟨F, hF⟩ : ∃ F : Node (St d) → Nat, F = fun k => maxL (deepT d) k.kids := ⟨_, rfl⟩
    have HF := hid (show deepT (d + 1) t = 1 + maxL F (Node.kids t) by rw [hF]; rfl)
    have HFk := hid (fun k => show F k = maxL (deepT d) k.kids by rw [hF])
    have HFb := hid (fun l => maxL_le F l d (fun k _ => by rw [hF]; exact maxL_le _ _ _ (fun x _ => deepT_le d x)))
    rw [HF.out]
    clear hF HF
    obtain ⟨w1, hw1, hb1, hlt1, hbox⟩ := boxed w #[U (Node.num t), .string (Node.bytes t), .slice a2 (Node.nums t).length p2, .slice a N cap] 34
    have hbx := hbox 3
    have hk1 := hk.below (kept_N (kept_S d)) hb1 (Nat.le_refl _)
    clear hbox hk
    have hbx' : w1.cell? ⟨w.heap.size, 3, none⟩ = some (.slice a N cap) := hbx
    clear hbx
    go_enter Tryd.func19, Tryd.ntmps19
    go_wp2_with fail
    clear hw1
    go_loopw [3, 4] (fun n i wr => ∃ k : Nat, k ≤ N ∧ i = .int .i64 k ∧ n = .int .i64 (maxL F ((Node.kids t).take k)) ∧ Below w1.heap.size w1 wr) (fun _ i _ => N - (intOf i).toNat)
    case atStart => exact ⟨0, Nat.zero_le _, rfl, rfl, Below.refl _ _⟩
    case round =>
      obtain ⟨k, hkN, rfl, rfl, hbl⟩ := hrel
      have hbm := HFb.out ((Node.kids t).take k)
      have hbx := (hbl.cell hlt1).trans hbx'
      by_cases hlt : k < N
      · obtain ⟨f, hf⟩ := get_lt (l := Node.kids t) (i := k) (by rw [← HN.out]; exact hlt)
        obtain ⟨b, off, a4, p4, a3, cap3, rfl, hbb, q0, q1, q2, q3, _, _, hfk, _, _, hfm⟩ := Kids.at_ (hk1.below (kept_N (kept_S d)) hbl (Nat.le_refl _)) hf
        obtain ⟨M, hM⟩ : ∃ M, M = f.kids.length := ⟨_, rfl⟩
        rw [← hM] at hfk hfm q3
        have HM := hid hM
        have Hf := hid hf
        clear hM hf q0 q1 q2 hk1 hbx'
        generalize hm : maxL F ((Node.kids t).take k) = m at *
        have Hm := hid hm
        clear hm
        go_wp2_with fail
        obtain ⟨wo, rfl⟩ : ∃ wo : World, wo = wr := ⟨_, rfl⟩
        have hwo := hbl.size
        have hlt2 : w.heap.size < wo.heap.size := Nat.lt_of_lt_of_le hlt1 hwo
        go_loopw [3, 5] (fun n i wr => ∃ j : Nat, j ≤ M ∧ i = .int .i64 j ∧ n = .int .i64 (max m (maxL (deepT d) (f.kids.take j)) : Nat) ∧ Below wo.heap.size wo wr) (fun _ i _ => M - (intOf i).toNat)
        case atStart => exact ⟨0, Nat.zero_le _, rfl, by simp [maxL], Below.refl _ _⟩
        case round =>
          obtain ⟨j, hjM, rfl, rfl, hbl2⟩ := hrel
          have hb2 : max m (maxL (deepT d) (f.kids.take j)) ≤ d := Nat.max_le.2 ⟨hbm, maxL_le _ _ _ (fun x _ => deepT_le d x)⟩
          have hbx2 := (hbl2.cell hlt2).trans hbx
          have q32 := (hbl2.cell hbb).trans q3
          by_cases hjl : j < M
          · obtain ⟨x, hx⟩ := get_lt (l := f.kids) (i := j) (by rw [← HM.out]; exact hjl)
            obtain ⟨b2, off2, xn, xb, e2, m2, s2, e3, m3, s3, rfl, hbb2, q0, q1, q2, q4, hrx⟩ := Kids.atS (hfk.below (kept_S d) hbl2 (Nat.le_refl _)) hx
            have hdx := deepT_le d x
            have Hst := hid (maxL_succ (deepT d) f.kids j x hx)
            have hcall := ih.out x _ wr hrx
            generalize deepT d x = dx at *
            generalize hq : maxL (deepT d) (f.kids.take j) = mj at *
            have Hq := hid hq
            generalize hp : max m mj = mm at *
            have Hp := hid hp
            clear hq hp hx hrx hfk hbx q3
            go_wp2_with fail
            ((refine hcall.mono ?_); rintro e1 w2 ⟨rfl, hb3⟩)
            have hb4 := hbl2.trans (hb3.mono hbl2.size)
            by_cases hmd : mm < dx
            all_goals
              go_wp2_with fail
              go_roundw
              case rel => exact ⟨j + 1, by omega, by go_num, by rw [Hst.out, ← Nat.max_assoc, Hp.out]; congr 1; omega, hb4⟩
              case measure => simp [intOf] <;> omega
          · obtain rfl : j = M := by omega
            have Hst := hid (show maxL F ((Node.kids t).take (k + 1)) = max m (maxL (deepT d) (f.kids.take j)) by
              rw [maxL_succ F _ k f Hf.out, Hm.out, HFk.out, List.take_of_length_le (by rw [← HM.out]; exact Nat.le_refl _)])
            clear hfk hbx q3
            go_wp2_with fail
            go_roundw
            case rel => exact ⟨k + 1, by omega, by go_num, by rw [Hst.out], hbl.trans (hbl2.mono hbl.size)⟩
            case measure => simp [intOf] <;> omega
      · obtain rfl : k = N := by omega
        have Hend := hid (show maxL F (Node.kids t) = maxL F ((Node.kids t).take k) by rw [List.take_of_length_le (by rw [← HN.out]; exact Nat.le_refl _)])
        generalize maxL F ((Node.kids t).take k) = m at *
        clear hk1 hbx'
        go_wp2_with fail
        go_ret
        exact ⟨by rw [Hend.out, show ((1 + m : Nat) : Int) = (m : Int) + 1 by omega]; rfl, hb1.trans (hbl.mono hb1.size)⟩
end Go.Proofs.YtmcpanjpjnlleaaDoor


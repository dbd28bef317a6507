/- tree.Deep. -/
import Derived.Test.YtmcpanjpjnlleaaDoorProg
import Derived.Test.YtmcpanjpjnlleaaDoorTrV
import Derived.Handy
import Derived.Deep.LoopGhost
set_option linter.unusedVariables false
namespace Go.Proofs.YtmcpanjpjnlleaaDoor
open Go.RowKit

theorem maxL_le {α : Type} (f : α → Nat) (l : List α) (b : Nat) (h : ∀ x ∈ l, f x ≤ b) : maxL f l ≤ b := by
  unfold maxL
  have : ∀ (l : List α) (m : Nat), m ≤ b → (∀ x ∈ l, f x ≤ b) → l.foldl (fun m x => max m (f x)) m ≤ b := by
    intro l
    induction l with
    | nil => intro m hm _; exact hm
    | cons x l ih => intro m hm hx; exact ih _ (Nat.max_le.2 ⟨hm, hx x (by simp)⟩) (fun y hy => hx y (by simp [hy]))
  exact this l 0 (Nat.zero_le _) h
theorem deepT_le : ∀ (d : Nat) (t : St d), deepT d t ≤ d
  | 0, v => nomatch v
  | d + 1, v => by
    have := maxL_le (fun k : Node (St d) => maxL (deepT d) k.kids) v.kids d (fun k _ => maxL_le _ _ _ (fun x _ => deepT_le d x))
    simp only [deepT]; omega

theorem max_num (a b : Nat) : Value.int .i64 (if a < b then (b : Int) else (a : Int)) = .int .i64 ((max a b : Nat) : Int) := by
  congr 1; split <;> omega

set_option maxHeartbeats 4000000 in
theorem deep_any (d : Nat) : ∀ (hd : d ≤ 64) (t : St d) (cs : List Value) (w : World), RdS d w cs t →
    Calls Tryd.prog 18 #[.agg cs.toArray] w fun r w' => r = .returned (.int .i64 (deepT d t)) ∧ Below w.heap.size w w' := by
  induction d with
  | zero => exact fun _ t _ _ _ => nomatch t
  | succ d ihd =>
    intro hd t cs w h
    have ih := hid (ihd (by omega))
    clear ihd
    obtain ⟨a2, p2, a, cap, rfl, hbs, hn, hk, hnm, hkm⟩ := RdN.open h
    clear h hn hbs hnm
    obtain ⟨N, hN⟩ : ∃ N, N = (Node.kids t).length := ⟨_, rfl⟩
    rw [← hN] at hk hkm ⊢
    have HN := hid hN
    clear hN
    obtain ⟨F, hF⟩ : ∃ F : Node (St d) → Nat, F = fun k => maxL (deepT d) k.kids := ⟨_, rfl⟩
    have HF := hid (show deepT (d + 1) t = 1 + maxL F (Node.kids t) by rw [hF]; rfl)
    have HFk := hid (fun k => show F k = maxL (deepT d) k.kids by rw [hF])
    have HFb := hid (fun l => maxL_le F l d (fun k _ => by rw [hF]; exact maxL_le _ _ _ (fun x _ => deepT_le d x)))
    rw [HF.out]
    clear hF HF
    go_enter Tryd.func18, Tryd.ntmps18
    go_wp2_with fail
    go_loopw [3, 11] (fun n i wr => ∃ k : Nat, k ≤ N ∧ i = .int .i64 k ∧ n = .int .i64 (maxL F ((Node.kids t).take k)) ∧ Below w.heap.size w wr) (fun _ i _ => N - (intOf i).toNat)
    case atStart => exact ⟨0, Nat.zero_le _, rfl, rfl, below_alloc _ _⟩
    case round =>
      obtain ⟨k, hkN, rfl, rfl, hbl⟩ := hrel
      have hb1 := HFb.out ((Node.kids t).take k)
      by_cases hlt : k < N
      · obtain ⟨f, hf⟩ := get_lt (l := Node.kids t) (i := k) (by rw [← HN.out]; exact hlt)
        obtain ⟨b, off, a4, p4, a3, cap3, rfl, hbb, q0, q1, q2, q3, _, _, hfk, _, _, hfm⟩ := Kids.at_ (hk.below (kept_N (kept_S d)) hbl (Nat.le_refl _)) hf
        obtain ⟨M, hM⟩ : ∃ M, M = f.kids.length := ⟨_, rfl⟩
        rw [← hM] at hfk hfm q3
        have HM := hid hM
        have Hf := hid hf
        clear hM hf
        generalize hm : maxL F ((Node.kids t).take k) = m at *
        have Hm := hid hm
        clear hm
        go_wp2_with fail
        obtain ⟨wo, rfl⟩ : ∃ wo : World, wo = wr := ⟨_, rfl⟩
        have hwo := hbl.size
        clear q0 q1 q2 q3 hk
        go_loopw [3, 18] (fun n i wr => ∃ j : Nat, j ≤ M ∧ i = .int .i64 j ∧ n = .int .i64 (max m (maxL (deepT d) (f.kids.take j)) : Nat) ∧ Below wo.heap.size wo wr) (fun _ i _ => M - (intOf i).toNat)
        case atStart => exact ⟨0, Nat.zero_le _, rfl, by simp [maxL], below_alloc _ _⟩
        case round =>
          obtain ⟨j, hjM, rfl, rfl, hbl2⟩ := hrel
          have hb2 : max m (maxL (deepT d) (f.kids.take j)) ≤ d := Nat.max_le.2 ⟨hb1, maxL_le _ _ _ (fun x _ => deepT_le d x)⟩
          by_cases hjl : j < M
          · obtain ⟨x, hx⟩ := get_lt (l := f.kids) (i := j) (by rw [← HM.out]; exact hjl)
            obtain ⟨b2, off2, xn, xb, e2, m2, s2, e3, m3, s3, rfl, hbb2, q0, q1, q2, q3, hrx⟩ := Kids.atS (hfk.below (kept_S d) hbl2 (Nat.le_refl _)) hx
            have hdx := deepT_le d x
            have Hst := hid (maxL_succ (deepT d) f.kids j x hx)
            have hcall := fun o => ih.out x _ (wr.alloc o) (hrx.below (below_alloc _ _) (Nat.le_refl _))
            generalize deepT d x = dx at *
            generalize hq : maxL (deepT d) (f.kids.take j) = mj at *
            have Hq := hid hq
            generalize hp : max m mj = mm at *
            have Hp := hid hp
            clear hq hp hx hrx hfk
            go_wp2_with fail
            ((refine (hcall _).mono ?_); rintro e1 w1 ⟨rfl, hb3⟩)
            go_wp2_with fail
            have hb4 := hbl2.trans (((below_alloc wr _).trans (hb3.mono (by simp))).mono hbl2.size)
            go_roundw
            case rel => exact ⟨j + 1, by omega, by go_num, by rw [Hst.out, ← Nat.max_assoc, Hp.out]; exact max_num _ _, hb4⟩
            case measure => simp [intOf] <;> omega
          · obtain rfl : j = M := by omega
            have Hst := hid (show maxL F ((Node.kids t).take (k + 1)) = max m (maxL (deepT d) (f.kids.take j)) by
              rw [maxL_succ F _ k f Hf.out, Hm.out, HFk.out, List.take_of_length_le (by rw [← HM.out]; exact Nat.le_refl _)])
            clear hfk
            go_wp2_with fail
            go_roundw
            case rel => exact ⟨k + 1, by omega, by go_num, by rw [Hst.out], via (w := w) hbl hbl2⟩
            case measure => simp [intOf] <;> omega
      · obtain rfl : k = N := by omega
        have Hend := hid (show maxL F (Node.kids t) = maxL F ((Node.kids t).take k) by rw [List.take_of_length_le (by rw [← HN.out]; exact Nat.le_refl _)])
        have hb1 := HFb.out ((Node.kids t).take k)
        generalize maxL F ((Node.kids t).take k) = m at *
        clear hk
        go_wp2_with fail
        go_ret
        exact ⟨by rw [Hend.out, show ((1 + m : Nat) : Int) = (m : Int) + 1 by omega]; rfl, hbl⟩
end Go.Proofs.YtmcpanjpjnlleaaDoor


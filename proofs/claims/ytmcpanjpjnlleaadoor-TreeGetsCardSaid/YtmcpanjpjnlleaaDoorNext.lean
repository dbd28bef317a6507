/- The document's row of numbers: next. -/
import Derived.Test.YtmcpanjpjnlleaaDoorSchGet
import Derived.Test.YtmcpanjpjnlleaaDoorOwn
import Derived.Deep.QuietTactic
import Derived.BigQuiet
import Derived.IntWalk
set_option linter.unusedVariables false
namespace Go.Proofs.YtmcpanjpjnlleaaDoor
open Go.RowKit

/-- The next number, by its rest. -/
def nxt (r : List Int) (n : Nat) : Nat := (r.headD 0 % (n : Int)).toNat

theorem nxt_lt (r : List Int) (n : Nat) (h : 1 ≤ n) : nxt r n < n := by
  unfold nxt
  have := Int.emod_lt_of_pos (r.headD 0) (show (0 : Int) < n by omega)
  have := Int.emod_nonneg (r.headD 0) (show (n : Int) ≠ 0 by omega)
  omega

theorem nxt_go (x : Int) (n : Nat) (h : 1 ≤ n) (h8 : n ≤ 65536) (hx : -9223372036854775808 ≤ x ∧ x ≤ 9223372036854775807) : (wrap64 (x.tmod n + n)).tmod n = x % (n : Int) := by
  have h1 := Int.tmod_lt_of_pos x (show (0 : Int) < n by omega)
  have h2 := Int.lt_tmod_of_pos x (show (0 : Int) < n by omega)
  have hw : wrap64 (x.tmod n + n) = x.tmod n + n := by simp only [wrap64]; omega
  rw [hw, Int.tmod_eq_emod_of_nonneg (by omega), Int.add_emod_right, Int.tmod_eq_emod]
  split
  · simp
  · rw [Int.natAbs_natCast, Int.sub_emod, Int.emod_self]; simp

/-- The document's row, in a box: the slice, and where it stands. -/
structure RS (w0 w : World) (B : Nat) (v : Value) (l r : List Int) : Prop where
  k : ∃ k : Nat, k ≤ l.length ∧ r = l.drop k ∧ w.cell? ⟨B, 1, none⟩ = some (.int .i64 k)
  c0 : w.cell? ⟨B, 0, none⟩ = some v
  fz : w.frozen? ⟨B, 1, none⟩ = false
  bt : BlkT w B 85
  hB : w0.heap.size ≤ B
  lt : B < w.heap.size
  bl : Below w0.heap.size w0 w

def NextP (w0 w : World) (B : Nat) (v : Value) (l r : List Int) (n : Nat) (e : Ending) (w' : World) : Prop :=
  e = .returned (.int .i64 (nxt r n)) ∧ RS w0 w' B v l r.tail ∧ w.grownBy w' (some B)

theorem grown_drewN (w : World) (k : Nat) (o : Option Nat) : w.grownBy (w.drewN k) o := ⟨rfl, rfl, rfl, Nat.le_refl _, fun _ _ _ => rfl⟩

set_option maxHeartbeats 1000000 in
theorem next_any (w0 w : World) (B : Nat) (v : Value) (l r : List Int) (n : Nat) (hr : Row w0 1 v l.length (l.map (Value.int .i64))) (hb : ∀ z ∈ l, -9223372036854775808 ≤ z ∧ z ≤ 9223372036854775807)
    (h : RS w0 w B v l r) (h1 : 1 ≤ n) (h8 : n ≤ 8) :
    Calls Tryd.prog 42 #[.pointer (some ⟨B, 0, none⟩), .int .i64 n] w (NextP w0 w B v l r n) := by
  obtain ⟨⟨k, hk, rfl, hc1⟩, hc0, hfz, hbt, hB, hlt, hbl⟩ := h
  have hrow := hr.below hbl (Nat.le_refl _)
  obtain ⟨a, cap, rfl, hnc, hcm, hcell⟩ := hrow.open
  have hmost := hr.most
  unfold maxLen at hmost
  obtain ⟨m, hm⟩ : ∃ m, m = l.length := ⟨_, rfl⟩
  rw [← hm] at hk hnc hmost hcell hc0
  have Hm := hid hm
  rw [← hm]
  clear hm
  by_cases hkm : k < m
  · obtain ⟨x, hx⟩ := get_lt (l := l) (i := k) (by rw [← Hm.out]; exact hkm)
    have hxb := hb x (List.mem_of_getElem? hx)
    obtain ⟨b, off, rfl, hbb, hcc⟩ := hcell (by omega)
    have hck : w.cell? ⟨b, off + k, none⟩ = some (.int .i64 x) := by rw [hcc k (by omega), List.getElem?_map, hx]; rfl
    have hbB : b < w0.heap.size := by
      obtain ⟨b', off', cap', e, _, _, hl, _⟩ := hr.cons (by rw [← Hm.out]; omega)
      simp only [Value.slice.injEq, Option.some.injEq, Addr.mk.injEq] at e
      omega
    have hne : b ≠ B := by omega
    have hw1 : IntKind.i64.wrap ((k : Int) + 1 - 1) = k := IntWalk.i64_in _ (by omega) |>.trans (by omega)
    have hdr : l.drop k = x :: l.drop (k + 1) := by
      rw [List.drop_eq_getElem_cons (by rw [← Hm.out]; exact hkm)]
      congr 1
      exact Option.some.inj ((List.getElem?_eq_getElem _).symm.trans hx)
    have Hend := hid (show NextP w0 w B (.slice (some ⟨b, off, none⟩) m cap) l (l.drop k) n = NextP w0 w B (.slice (some ⟨b, off, none⟩) m cap) l (x :: l.drop (k + 1)) n by rw [hdr])
    have Hg := hid (nxt_go x n h1 (by omega) hxb)
    rw [Hend.out]
    clear Hend hdr hx hr hrow hb hcell hcc hxb
    go_enter Tryd.func42, Tryd.ntmps42
    go_wp2_with fail
    go_quiet (fail)
    go_wp2_with fail
    go_quiet (fail)
    go_wp2_with fail
    go_ret
    refine ⟨by rw [Hg.out, nxt, List.headD_cons, Int.toNat_of_nonneg (Int.emod_nonneg _ (by omega))]; rfl, ⟨⟨k + 1, by rw [← Hm.out]; omega, rfl, ?_⟩, ?_, ?_, ?_, hB, ?_, ?_⟩, ?_⟩
    · simp [go_sem, hc1]
    · simp [go_sem, hc0]
    · simp [go_sem, hfz]
    · exact hbt.setCell _ _
    · simpa using hlt
    · exact ((hbl.trans (below_drewN _ _ _)).setCell hB _).trans (below_drewN _ _ _)
    · exact grown_below (grown_set (grown_drewN w _ _) (.inr rfl) _) (below_drewN _ _ _)
  · obtain rfl : k = m := by omega
    have Hend := hid (show NextP w0 w B (.slice a k cap) l (l.drop k) n = NextP w0 w B (.slice a k cap) l [] n by rw [List.drop_of_length_le (by rw [Hm.out]; exact Nat.le_refl _)])
    rw [Hend.out]
    clear Hend hr hrow hb hcell
    go_enter Tryd.func42, Tryd.ntmps42
    go_wp2_with fail
    go_quiet (fail)
    go_wp2_with fail
    go_ret
    exact ⟨by simp [nxt], ⟨⟨k, by rw [← Hm.out]; exact Nat.le_refl _, by rw [List.drop_of_length_le (by rw [Hm.out]; exact Nat.le_refl _)]; rfl, hc1⟩, hc0, hfz, hbt, hB, hlt, hbl.trans (below_drewN _ _ _)⟩, grown_drewN w _ _⟩
end Go.Proofs.YtmcpanjpjnlleaaDoor


/- tree.Size. -/
import Derived.Test.YtmcpanjpjnlleaaDoorAdd
import Derived.Laws.EntriesVeiled
set_option linter.unusedVariables false
namespace Go.Proofs.YtmcpanjpjnlleaaDoor
open Go.RowKit

set_option maxRecDepth 100000 in
set_option maxHeartbeats 2000000 in
theorem tsize_any (s : Schema) (sv : Value) (d : Nat) (t : Int) (v : St d) (cs : List Value) (w : World) (hs : Sch w sv s) (h : RdS d w cs v) :
    Calls Tryd.prog 20 #[sv, .int .i64 t, .agg cs.toArray] w fun r w' => r = .returned (.int .i64 (sizeT s d t v)) ∧ Below w.heap.size w w' := by
  cases d with
  | zero => exact nomatch v
  | succ d =>
    obtain ⟨a2, p2, a, cap, hcs, hbs, hn, hk, hnm, hkm⟩ := RdN.open h
    subst hcs
    obtain ⟨w1, hw1, hb1, hlt1, hbox⟩ := boxed w #[U (Node.num v), .string (Node.bytes v), .slice a2 (Node.nums v).length p2, .slice a (Node.kids v).length cap] 34
    have x0 : w1.cell? ⟨w.heap.size, 0, none⟩ = some (U (Node.num v)) := hbox 0
    have x1 : w1.cell? ⟨w.heap.size, 1, none⟩ = some (.string (Node.bytes v)) := hbox 1
    have x2 : w1.cell? ⟨w.heap.size, 2, none⟩ = some (.slice a2 (Node.nums v).length p2) := hbox 2
    have x3 : w1.cell? ⟨w.heap.size, 3, none⟩ = some (.slice a (Node.kids v).length cap) := hbox 3
    have h1 := h.below hb1 (Nat.le_refl _)
    have hck := tcheck_any s sv (d + 1) t v _ w1 (hs.below hb1 (Nat.le_refl _)) h1
    have Hadd := hid (fun (hc : checkC s (d + 1) t v = 0) (hl : 1 + wordsT (d + 1) v ≤ LIM) W Bn Bf (hS : AddS w1 W Bn Bf 1) => add_any (d + 1) v _ w1 W Bn Bf 1 hl h1 hS)
    have Hs := hid (fun (hc : checkC s (d + 1) t v = 0) => show sizeT s (d + 1) t v = 1 + wordsT (d + 1) v by rw [sizeT, if_pos hc])
    have Hs0 := hid (fun (hc : ¬ checkC s (d + 1) t v = 0) => show sizeT s (d + 1) t v = 0 by rw [sizeT, if_neg hc])
    have Hlim := hid (fun (hc : checkC s (d + 1) t v = 0) => show 1 + wordsT (d + 1) v ≤ LIM by
      unfold checkC at hc
      split at hc
      · next hr => exact Nat.le_trans (Nat.add_le_add_left (words_le hr.1 (d + 1) 5 t v hc) 1) (by decide)
      · exact absurd hc (by decide))
    clear hs h h1 hk hn hbox hbs
    by_cases hc : checkC s (d + 1) t v = 0
    · have hadd := Hadd.out hc (Hlim.out hc)
      have Hst := hid (Hs.out hc)
      rw [hc, show ErrV 0 = .nilIface from rfl] at hck
      clear hc Hlim Hs Hs0 Hadd
      generalize wordsT (d + 1) v = wn at *
      go_enter Tryd.func20, Tryd.ntmps20
      go_wp2_with fail
      ((refine hck.mono ?_); rintro r1 w2 ⟨rfl, hb2⟩)
      replace x0 := (hb2.cell hlt1).trans x0
      replace x1 := (hb2.cell hlt1).trans x1
      replace x2 := (hb2.cell hlt1).trans x2
      replace x3 := (hb2.cell hlt1).trans x3
      have hlt2 : w.heap.size < w2.heap.size := Nat.lt_of_lt_of_le hlt1 hb2.size
      clear hw1
      have hS : AddS w1 ((w2.alloc (.cells #[.int .i64 1] 3)).alloc (.cells #[.func (.func 36) #[] #[.pointer (some ⟨w2.heap.size, 0, none⟩), .pointer (some ⟨w2.heap.size + 1, 0, none⟩)]] 76)) w2.heap.size (w2.heap.size + 1) 1 := by
        refine ⟨by simp [go_sem], by simp [go_sem], by simp [go_sem], hb2.size, by simp <;> omega, by simp <;> omega, by omega, ?_⟩
        have hsz := hb2.size
        go_grown
      have hcall := hadd _ _ _ hS
      go_wp2_with fail
      ((refine hcall.mono ?_); rintro r2 w4 ⟨rfl, hS4, hg4⟩)
      have hfin : Below w.heap.size w w4 := hb1.trans (hS4.bl.mono hb1.size)
      have hn4 := hS4.n
      clear hS hcall hS4 hg4
      go_wp2
      go_ret
      exact ⟨by rw [Hst.out]; rfl, hfin⟩
    · have Hst := hid (Hs0.out hc)
      rw [errV_ne hc] at hck
      generalize checkC s (d + 1) t v = c at *
      clear hc Hlim Hs Hs0 Hadd
      go_enter Tryd.func20, Tryd.ntmps20
      go_wp2_with fail
      ((refine hck.mono ?_); rintro r1 w2 ⟨rfl, hb2⟩)
      clear hw1
      go_wp2
      go_ret
      exact ⟨by rw [Hst.out]; rfl, hb1.trans (hb2.mono hb1.size)⟩
end Go.Proofs.YtmcpanjpjnlleaaDoor


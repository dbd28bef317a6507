/- The document's Same, of schemas. -/
import Derived.Test.YtbhnbjaafejcjaaDoorSchV
import Derived.Test.YtbhnbjaafejcjaaDoorProg
import Derived.Deep.QuietTactic
import Derived.BigQuiet
import Derived.IntWalk
import Derived.Handy
import Derived.Deep.LoopGhost
import Derived.Laws.StructEq
set_option linter.unusedVariables false
namespace Go.Proofs.YtbhnbjaafejcjaaDoor
open Go.RowKit

@[go_sem] theorem eqF (a b c d : Int) (w : World) : (Op.equalIn 10000 30 (.agg #[.int .i64 a, .int .i64 b]) (.agg #[.int .i64 c, .int .i64 d])).run Tryd.prog w = .ok (a == c && b == d) w := by
  have hS : Tryd.prog.underlying 30 = some (.struct (Tryd.prog.fieldsOf 30)) := by kernel_rfl
  have hp : Tryd.prog.stoodInHeld 30 = false := by kernel_rfl
  rw [show (10000 : Nat) = 9999 + 1 from rfl, run_equalIn_struct w 9999 30 _ _ hS hp]
  simp only [Program.fieldsOf, Tryd.underlying30]
  go_simp
  by_cases h1 : a = c <;> by_cases h2 : b = d <;> simp [h1, h2]

theorem take_eq_succ {α : Type} {l m : List α} {k : Nat} {x y : α} (hl : l[k]? = some x) (hm : m[k]? = some y) (h : l.take k = m.take k) (e : x = y) : l.take (k + 1) = m.take (k + 1) := by
  rw [List.take_add_one, List.take_add_one, hl, hm, h, e]
theorem ne_of_get {α : Type} {l m : List α} {k : Nat} {x y : α} (hl : l[k]? = some x) (hm : m[k]? = some y) (h : x ≠ y) : l ≠ m := by
  intro e; rw [e, hm] at hl; exact h (Option.some.inj hl).symm

set_option maxRecDepth 100000 in
set_option maxHeartbeats 4000000 in
theorem same5_any (s t : Schema) (u v : Value) (w : World) (hs : Sch w u s) (ht : Sch w v t) :
    Calls Tryd.prog 20 #[u, v] w fun e w' => e = .returned (.bool (decide (s = t))) ∧ Below w.heap.size w w' := by
  obtain ⟨a, cap, rfl, hnc, hcm, hmost⟩ := hs.shape
  obtain ⟨a2, cap2, rfl, hnc2, hcm2, hmost2⟩ := ht.shape
  unfold maxLen at hmost hmost2
  obtain ⟨n, hn⟩ : ∃ n, n = s.length := ⟨_, rfl⟩
  obtain ⟨m, hm⟩ : ∃ m, m = t.length := ⟨_, rfl⟩
  rw [← hn] at hs hnc hmost ⊢
  rw [← hm] at ht hnc2 hmost2 ⊢
  have Hn := hid hn
  have Hm := hid hm
  clear hn hm
  by_cases hl : n = m
  · subst hl
    go_enter Tryd.func20, Tryd.ntmps20
    go_wp2_with fail
    go_loopw [5] (fun i wr => ∃ k : Nat, k ≤ n ∧ i = .int .i64 k ∧ Below w.heap.size w wr ∧ s.take k = t.take k) (fun i _ => n - (intOf i).toNat)
    case atStart => exact ⟨0, Nat.zero_le _, rfl, Below.refl _ _, rfl⟩
    case round =>
      obtain ⟨k, hk, rfl, hbl, hkk⟩ := hrel
      have Hkk := hid hkk
      clear hkk
      by_cases hlt : k < n
      · obtain ⟨l1, hl1⟩ := get_lt (l := s) (i := k) (by rw [← Hn.out]; exact hlt)
        obtain ⟨l2, hl2⟩ := get_lt (l := t) (i := k) (by rw [← Hm.out]; exact hlt)
        obtain ⟨b, off, a3, p3, rfl, hbb, c1, hf1, hlm1, hlc1, hcx1⟩ := (hs.below hbl (Nat.le_refl _)).at_ hl1
        obtain ⟨b2, off2, a4, p4, rfl, hbb2, c2, hf2, hlm2, hlc2, hcx2⟩ := (ht.below hbl (Nat.le_refl _)).at_ hl2
        obtain ⟨x, hx⟩ : ∃ x, x = l1.length := ⟨_, rfl⟩
        obtain ⟨y, hy⟩ : ∃ y, y = l2.length := ⟨_, rfl⟩
        rw [← hx] at c1 hf1 hlm1 hlc1
        rw [← hy] at c2 hf2 hlm2 hlc2
        unfold maxLen at hlm1 hlm2
        have Hx := hid hx
        have Hy := hid hy
        have Hl1 := hid hl1
        have Hl2 := hid hl2
        clear hx hy hl1 hl2
        by_cases hxy : x = y
        · subst hxy
          go_wp2_with fail
          go_quiet (fail)
          go_wp2_with fail
          have hbl2 := hbl.trans (below_drewN w.heap.size wr nq)
          have d1 : (wr.drewN nq).cell? ⟨b, off + k, none⟩ = some (.slice a3 x p3) := c1
          have d2 : (wr.drewN nq).cell? ⟨b2, off2 + k, none⟩ = some (.slice a4 x p4) := c2
          have hg1 : Flds (wr.drewN nq) (.slice a3 x p3) l1 := Row.drewN hf1
          have hg2 : Flds (wr.drewN nq) (.slice a4 x p4) l2 := Row.drewN hf2
          have hbw : b < (wr.drewN nq).heap.size := hbb
          have hbw2 : b2 < (wr.drewN nq).heap.size := hbb2
          clear c1 c2 hf1 hf2 hbl hbb hbb2
          generalize wr.drewN nq = wo at *
          go_loopw [6] (fun j wr => ∃ i : Nat, i ≤ x ∧ j = .int .i64 i ∧ Below wo.heap.size wo wr ∧ l1.take i = l2.take i) (fun j _ => x - (intOf j).toNat)
          case atStart => exact ⟨0, Nat.zero_le _, rfl, Below.refl _ _, rfl⟩
          case round =>
            obtain ⟨i, hi, rfl, hbi, hii⟩ := hrel
            have Hii := hid hii
            clear hii
            have e1 := (hbi.cell (p := ⟨b, off + k, none⟩) hbw).trans d1
            have e2 := (hbi.cell (p := ⟨b2, off2 + k, none⟩) hbw2).trans d2
            by_cases hil : i < x
            · obtain ⟨p, hp⟩ := get_lt (l := l1) (i := i) (by rw [← Hx.out]; exact hil)
              obtain ⟨q, hq⟩ := get_lt (l := l2) (i := i) (by rw [← Hy.out]; exact hil)
              obtain ⟨b5, off5, rfl, hb5, q1, q2⟩ := (hg1.below hbi (Nat.le_refl _)).at_ hp
              obtain ⟨b6, off6, rfl, hb6, q3, q4⟩ := (hg2.below hbi (Nat.le_refl _)).at_ hq
              obtain ⟨pk, pt⟩ := p
              obtain ⟨qk, qt⟩ := q
              simp only at q1 q2 q3 q4
              have Hp := hid hp
              have Hq := hid hq
              clear hp hq d1 d2 hg1 hg2
              by_cases hpq : (pk, pt) = (qk, qt)
              · obtain ⟨rfl, rfl⟩ := Prod.mk.inj hpq
                clear hpq
                go_wp2_with fail
                go_quiet (fail)
                go_wp2_with fail
                go_roundw
                case rel => exact ⟨i + 1, by omega, by go_num, hbi.trans (below_drewN _ _ _), take_eq_succ Hp.out Hq.out Hii.out rfl⟩
                case measure => simp [intOf] <;> omega
              · have hno := hid (show decide (s = t) = false from decide_eq_false (ne_of_get Hl1.out Hl2.out (ne_of_get Hp.out Hq.out hpq)))
                by_cases h1 : pk = qk
                · subst h1
                  have hne : (pt == qt) = false := by rw [beq_eq_false_iff_ne]; exact fun e => hpq (by rw [e])
                  clear hpq
                  go_wp2_with fail
                  go_quiet (fail)
                  go_wp2_with fail
                  go_ret
                  exact ⟨by rw [hno.out]; rfl, hbl2.trans ((hbi.trans (below_drewN _ _ _)).mono hbl2.size)⟩
                · have hne : (pk == qk) = false := by rw [beq_eq_false_iff_ne]; exact h1
                  clear hpq h1
                  go_wp2_with fail
                  go_quiet (fail)
                  go_wp2_with fail
                  go_ret
                  exact ⟨by rw [hno.out]; rfl, hbl2.trans ((hbi.trans (below_drewN _ _ _)).mono hbl2.size)⟩
            · obtain rfl : i = x := by omega
              have Hll := hid (show l1 = l2 by
                have := Hii.out
                rwa [List.take_of_length_le (by rw [← Hx.out]; exact Nat.le_refl _), List.take_of_length_le (by rw [← Hy.out]; exact Nat.le_refl _)] at this)
              go_wp2_with fail
              go_roundw
              case rel => exact ⟨k + 1, by omega, by go_num, hbl2.trans (hbi.mono hbl2.size), take_eq_succ Hl1.out Hl2.out Hkk.out Hll.out⟩
              case measure => simp [intOf] <;> omega
        · have hno := hid (show decide (s = t) = false from decide_eq_false (ne_of_get Hl1.out Hl2.out (fun e => hxy (by rw [Hx.out, Hy.out, e]))))
          have hne : ((x : Int) != (y : Int)) = true := by rw [bne_iff_ne]; omega
          clear hxy
          go_wp2_with fail
          go_quiet (fail)
          go_wp2_with fail
          go_ret
          exact ⟨by rw [hno.out]; rfl, hbl.trans (below_drewN _ _ _)⟩
      · obtain rfl : k = n := by omega
        have hyes := hid (show decide (s = t) = true from decide_eq_true (by
          have := Hkk.out
          rwa [List.take_of_length_le (by rw [← Hn.out]; exact Nat.le_refl _), List.take_of_length_le (by rw [← Hm.out]; exact Nat.le_refl _)] at this))
        go_wp2_with fail
        go_ret
        exact ⟨by rw [hyes.out]; rfl, hbl⟩
  · have hne : ((n : Int) != (m : Int)) = true := by rw [bne_iff_ne]; omega
    have hno := hid (show decide (s = t) = false from decide_eq_false (fun e => hl (by rw [Hn.out, Hm.out, e])))
    clear hl
    go_enter Tryd.func20, Tryd.ntmps20
    go_wp2
    go_ret
    exact ⟨by rw [hno.out]; rfl, Below.refl _ _⟩
end Go.Proofs.YtbhnbjaafejcjaaDoor


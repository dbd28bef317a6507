/- The document's look: Check. -/
import Derived.Test.YtblbhlgihlgncaaDoorRVisit
import Derived.Test.YtblbhlgihlgncaaDoorGf
import Derived.Test.YtblbhlgihlgncaaDoorGh
import Derived.Test.YtblbhlgihlgncaaDoorValB
set_option linter.unusedVariables false
set_option linter.unusedSimpArgs false
namespace Go.Proofs.YtblbhlgihlgncaaDoor
section SRCheck
open Go.RowKit

def lookC (x : Int × Option Nat × Nat) : Array Value := #[.int .i64 x.1, .int .i64 ((x.2.1.getD 0 : Nat) : Int), .bool x.2.1.isSome, .int .i64 (x.2.2 : Int)]
@[go_sem] theorem run_build_look1 (e : Int) (w : World) : (Instr.build 77 #[(0, .int .i64 e)]).run Tryd.prog w = .ok (.agg #[.int .i64 e, .int .i64 0, .bool false, .int .i64 0]) w := run_build w 77 _ _ (by kernel_rfl)
@[go_sem] theorem run_build_look0 (w : World) : (Instr.build 77 #[]).run Tryd.prog w = .ok (.agg #[.int .i64 0, .int .i64 0, .bool false, .int .i64 0]) w := run_build w 77 _ _ (by kernel_rfl)

set_option maxRecDepth 100000 in
set_option maxHeartbeats 8000000 in
theorem rcheck_any (s : Schema) (ws : List (BitVec 64)) (sv wv : Value) (w : World) (hs : Sch w sv s) (hw : Row w 1 wv ws.length (ws.map U)) :
    Calls Tryd.prog 28 #[sv, wv] w fun r w' => r = .returned (.agg (lookC (allW s ws))) ∧ Below w.heap.size w w' := by
  obtain ⟨w1, hw1, hb1, hz1, hR⟩ := TB.make w (.int .i64 0) (.int .i64 0) (.bool false) (.int .i64 0) 77
  have hright := rright_any s sv w1 (hs.below hb1 (Nat.le_refl _))
  obtain ⟨a, cap, rfl, hcap1, hcap2, _⟩ := hw.open
  have hm := hw.most
  unfold maxLen at hm
  cases hr : rightB s with
  | false =>
    have Ha := hid (show allW s ws = (1, none, 0) by unfold allW; rw [if_pos hr])
    rw [hr] at hright
    rw [Ha.out]
    clear hw hs
    obtain ⟨L, hL⟩ : ∃ L, L = ws.length := ⟨_, rfl⟩
    rw [← hL] at hcap1 hm ⊢
    clear hL
    go_enter Tryd.func28, Tryd.ntmps28
    go_wp2_with fail
    ((refine hright.mono ?_); rintro r w2 ⟨rfl, hb2⟩)
    clear hw1
    have hR2 := hR.below hb2
    obtain ⟨w6, hw6⟩ : ∃ w6, w6 = (((w2.setCell ⟨w.heap.size, 0, none⟩ (.int .i64 1)).setCell ⟨w.heap.size, 1, none⟩ (.int .i64 0)).setCell ⟨w.heap.size, 2, none⟩ (.bool false)).setCell ⟨w.heap.size, 3, none⟩ (.int .i64 0) := ⟨_, rfl⟩
    have hR6 : TB w6 w.heap.size (.int .i64 1) (.int .i64 0) (.bool false) (.int .i64 0) := by rw [hw6]; exact (((hR2.set0 _).set1 _).set2 _).set3 _
    have hb6 : Below w.heap.size w w6 := by
      rw [hw6]
      exact ((((via hb1 hb2).setCell (p := ⟨w.heap.size, 0, none⟩) (Nat.le_refl _) _).setCell (p := ⟨w.heap.size, 1, none⟩) (Nat.le_refl _) _).setCell (p := ⟨w.heap.size, 2, none⟩) (Nat.le_refl _) _).setCell (p := ⟨w.heap.size, 3, none⟩) (Nat.le_refl _) _
    have ⟨_, k0, k1, k2, k3, kf⟩ := hR2
    have kf0 := kf 0
    have kf1 := kf 1
    have kf2 := kf 2
    have kf3 := kf 3
    have hw6' := hw6.symm
    clear hw6
    go_wp2_with fail
    clear k0 k1 k2 k3 kf kf0 kf1 kf2 kf3 hw6'
    have ⟨_, r0, r1, r2, r3, _⟩ := hR6
    (try simp only [Exit.inBlock, Exit.then])
    refine bodyPost_ret (by simp [results, Tryd.results28, go_sem, r0, r1, r2, r3]; try rfl) rfl ?_
    exact ⟨rfl, hb6⟩
  | true =>
    rw [hr] at hright
    by_cases hlen : ws.length = 0 ∨ 200 < ws.length
    · have Ha := hid (allW_long hr hlen.symm)
      rw [Ha.out]
      obtain ⟨L, hL⟩ : ∃ L, L = ws.length := ⟨_, rfl⟩
      rw [← hL] at hcap1 hm hlen ⊢
      clear hL hw hs
      by_cases h0 : L = 0
      · subst h0
        go_enter Tryd.func28, Tryd.ntmps28
        go_wp2_with fail
        ((refine hright.mono ?_); rintro r w2 ⟨rfl, hb2⟩)
        clear hw1
        have hR2 := hR.below hb2
        obtain ⟨w6, hw6⟩ : ∃ w6, w6 = (((w2.setCell ⟨w.heap.size, 0, none⟩ (.int .i64 21)).setCell ⟨w.heap.size, 1, none⟩ (.int .i64 0)).setCell ⟨w.heap.size, 2, none⟩ (.bool false)).setCell ⟨w.heap.size, 3, none⟩ (.int .i64 0) := ⟨_, rfl⟩
        have hR6 : TB w6 w.heap.size (.int .i64 21) (.int .i64 0) (.bool false) (.int .i64 0) := by rw [hw6]; exact (((hR2.set0 _).set1 _).set2 _).set3 _
        have hb6 : Below w.heap.size w w6 := by
          rw [hw6]
          exact ((((via hb1 hb2).setCell (p := ⟨w.heap.size, 0, none⟩) (Nat.le_refl _) _).setCell (p := ⟨w.heap.size, 1, none⟩) (Nat.le_refl _) _).setCell (p := ⟨w.heap.size, 2, none⟩) (Nat.le_refl _) _).setCell (p := ⟨w.heap.size, 3, none⟩) (Nat.le_refl _) _
        have ⟨_, k0, k1, k2, k3, kf⟩ := hR2
        have kf0 := kf 0
        have kf1 := kf 1
        have kf2 := kf 2
        have kf3 := kf 3
        have hw6' := hw6.symm
        clear hw6
        go_wp2_with fail
        clear k0 k1 k2 k3 kf kf0 kf1 kf2 kf3 hw6'
        have ⟨_, r0, r1, r2, r3, _⟩ := hR6
        (try simp only [Exit.inBlock, Exit.then])
        refine bodyPost_ret (by simp [results, Tryd.results28, go_sem, r0, r1, r2, r3]; try rfl) rfl ?_
        exact ⟨rfl, hb6⟩
      · have h0' : ((L : Int) == 0) = false := by rw [beq_eq_false_iff_ne]; omega
        have h200 : (200 : Int) < (L : Int) := by omega
        clear hlen h0
        go_enter Tryd.func28, Tryd.ntmps28
        go_wp2_with fail
        ((refine hright.mono ?_); rintro r w2 ⟨rfl, hb2⟩)
        clear hw1
        have hR2 := hR.below hb2
        obtain ⟨w6, hw6⟩ : ∃ w6, w6 = (((w2.setCell ⟨w.heap.size, 0, none⟩ (.int .i64 21)).setCell ⟨w.heap.size, 1, none⟩ (.int .i64 0)).setCell ⟨w.heap.size, 2, none⟩ (.bool false)).setCell ⟨w.heap.size, 3, none⟩ (.int .i64 0) := ⟨_, rfl⟩
        have hR6 : TB w6 w.heap.size (.int .i64 21) (.int .i64 0) (.bool false) (.int .i64 0) := by rw [hw6]; exact (((hR2.set0 _).set1 _).set2 _).set3 _
        have hb6 : Below w.heap.size w w6 := by
          rw [hw6]
          exact ((((via hb1 hb2).setCell (p := ⟨w.heap.size, 0, none⟩) (Nat.le_refl _) _).setCell (p := ⟨w.heap.size, 1, none⟩) (Nat.le_refl _) _).setCell (p := ⟨w.heap.size, 2, none⟩) (Nat.le_refl _) _).setCell (p := ⟨w.heap.size, 3, none⟩) (Nat.le_refl _) _
        have ⟨_, k0, k1, k2, k3, kf⟩ := hR2
        have kf0 := kf 0
        have kf1 := kf 1
        have kf2 := kf 2
        have kf3 := kf 3
        have hw6' := hw6.symm
        clear hw6
        go_wp2_with fail
        clear k0 k1 k2 k3 kf kf0 kf1 kf2 kf3 hw6'
        have ⟨_, r0, r1, r2, r3, _⟩ := hR6
        (try simp only [Exit.inBlock, Exit.then])
        refine bodyPost_ret (by simp [results, Tryd.results28, go_sem, r0, r1, r2, r3]; try rfl) rfl ?_
        exact ⟨rfl, hb6⟩
    · obtain ⟨L, hL⟩ : ∃ L, L = ws.length := ⟨_, rfl⟩
      have h0' : ((L : Int) == 0) = false := by rw [beq_eq_false_iff_ne]; omega
      have h200 : (L : Int) ≤ 200 := by omega
      have hL0 : 0 < L := by omega
      obtain ⟨bw, offw, cap', he, -, -, hbw, hcw⟩ := hw.cons (by omega)
      simp only [Value.slice.injEq, true_and] at he
      obtain ⟨rfl, rfl⟩ := he
      obtain ⟨x, hxe⟩ : ∃ x, ws[0]? = some x := get_lt (by omega)
      have hxc := hcw 0 (by omega)
      rw [List.getElem?_map, hxe, Option.map_some, Nat.add_zero] at hxc
      have hgd : ws.getD 0 0#64 = x := by rw [List.getD_eq_getElem?_getD, hxe]; rfl
      have HL := hid hL
      have Hlen := hid hlen
      have Hs := hid hs
      have Hw := hid hw
      rw [← hL] at hcap1 hm ⊢
      clear hw hs hcw hxe hlen hL
      go_enter Tryd.func28, Tryd.ntmps28
      go_wp2_with fail
      ((refine hright.mono ?_); rintro r w2 ⟨rfl, hb2⟩)
      clear hw1
      have hR2 := hR.below hb2
      obtain ⟨w3, hw3, hb3, hlt3, hbox3⟩ := boxed w2 #[.int .i64 0, .int .i64 0, .bool false, .int .i64 0] 77
      have hLr : LrB w3 w2.heap.size (0, none) := by
        unfold LrB
        rw [← hw3]
        show (w2.heap.push _)[w2.heap.size]? = _
        simp [LrC]
      have hb23 := via hb2 hb3
      have hb13 := via hb1 hb23
      have hR3 := hR.below hb23
      have hg3 : w.heap.size ≤ w2.heap.size := (via hb1 hb2).size

      have xc := (hb13.cell hbw).trans hxc
      obtain ⟨sa, scap, hsv, hsc1, hsc2, hsm⟩ := Hs.out.shape
      have hsm' := hsm
      unfold maxLen at hsm'
      obtain ⟨ns, hns⟩ : ∃ m, m = s.length := ⟨_, rfl⟩
      have hs8 : s.length ≤ 8 := by unfold rightB at hr; simp only [Bool.and_eq_true, decide_eq_true_eq] at hr; exact hr.1.2
      rw [← hns] at hsv hsm' hs8
      have Hns := hid hns
      clear hns hsm
      subst hsv
      have Hrun := hid (show runW s ws = if loN x ≠ ws.length ∨ s.length ≤ hiN x then (0, some (10, 0)) else match clV ws.length 0 1 (typeL s (hiN x : Nat)).length 0 with
        | (c', none) => visN s ws 4 (hiN x : Nat) 1 c'
        | (c', some e) => (c', some e) from by unfold runW; rw [hgd]; rfl)
      have Hall := hid fun (c : Nat) (e : Option (Int × Nat)) (h : runW s ws = (c, e)) => show lookC (allW s ws) = LrC (c, e) from by
        unfold allW
        rw [if_neg (by rw [hr]; decide), if_neg Hlen.out, h]
        cases e <;> rfl
      have hlo : (x &&& 4294967295#64).toNat = loN x := by rw [BitVec.toNat_and, show (4294967295#64).toNat = 2 ^ 32 - 1 from rfl, Nat.and_two_pow_sub_one_eq_mod]; rfl
      have hLn : (BitVec.ofNat 64 L).toNat = L := by rw [BitVec.toNat_ofNat]; omega
      have hbq : ((x &&& 4294967295#64) != BitVec.ofNat 64 L) = decide (loN x ≠ L) := by
        rw [Bool.eq_iff_iff, bne_iff_ne, decide_eq_true_eq, ne_eq, ne_eq, BitVec.toNat_eq, hlo, hLn]
      have hUt : U (x >>> 32) = .int .u64 (hiN x : Int) := by
        unfold U
        rw [BitVec.toNat_ushiftRight, Nat.shiftRight_eq_div_pow]; rfl
      have hUn : U (BitVec.ofNat 64 ns) = .int .u64 (ns : Int) := by
        unfold U
        rw [BitVec.toNat_ofNat, Nat.mod_eq_of_lt (by omega)]
      have hhi2 : hiN x < 4294967296 := by unfold hiN; have := x.isLt; omega
      have hgne : w.heap.size ≠ w2.heap.size := by have := hb1.size; have := hb2.size; omega
      have HL2 := HL.out
      rw [← HL.out, ← Hns.out] at Hrun
      generalize hiN x = t at *
      generalize hlx : loN x = lx at *
      have hLx : Lx s ws (.slice sa ns scap) (some ⟨bw, offw, none⟩) cap w2.heap.size w2 := ⟨hr, Hs.out.below (via hb1 hb2) (Nat.le_refl _), Hw.out.below (via hb1 hb2) (Nat.le_refl _), Nat.le_refl _, by rw [← HL2]; omega⟩
      have HT := hid fun W (k : w3.grownBy W (some w2.heap.size)) => show TB W w.heap.size (.int .i64 0) (.int .i64 0) (.bool false) (.int .i64 0) ∧ Below w.heap.size w W from
        ⟨hR3.of_block (k.block _ hR3.lt (fun e => hgne (by have := Option.some.inj e; omega))) (Nat.lt_of_lt_of_le hR3.lt k.size), hb13.grown k hb13.size (fun q e => by have := Option.some.inj e; omega)⟩
      clear hgd hlo hLn hxc hb23 hR3 hlx hbox3 HL2 hgne
      by_cases hn : lx = L
      · have hbf : decide (lx ≠ L) = false := decide_eq_false (fun h => h hn)
        rw [hbf] at hbq
        have hbq2 := hbq
        by_cases hts : ns ≤ t
        · have htc : (ns : Int) ≤ (t : Int) := by omega
          have HA := hid (Hall.out 0 (some (10, 0)) (Hrun.out.trans (if_pos (.inr hts))))
          clear hn hts hbq2
          have hwr := hid (rwrong_any w2.heap.size 0 0 10 w3 hLr)
          go_wp2_with fail
          ((refine hwr.out.mono ?_); rintro r w5 ⟨rfl, k1, k2⟩)
          obtain ⟨hT9, hb9⟩ := HT.out w5 k2
          have z0 : w5.cell? ⟨w2.heap.size, 0, none⟩ = some (.int .i64 10) := k1.cell 0
          have z1 : w5.cell? ⟨w2.heap.size, 1, none⟩ = some (.int .i64 0) := k1.cell 1
          have z2 : w5.cell? ⟨w2.heap.size, 2, none⟩ = some (.bool true) := k1.cell 2
          have z3 : w5.cell? ⟨w2.heap.size, 3, none⟩ = some (.int .i64 0) := k1.cell 3
          obtain ⟨w6, hw6⟩ : ∃ w6, w6 = (((w5.setCell ⟨w.heap.size, 0, none⟩ (.int .i64 10)).setCell ⟨w.heap.size, 1, none⟩ (.int .i64 0)).setCell ⟨w.heap.size, 2, none⟩ (.bool true)).setCell ⟨w.heap.size, 3, none⟩ (.int .i64 0) := ⟨_, rfl⟩
          have hR6 : TB w6 w.heap.size (.int .i64 10) (.int .i64 0) (.bool true) (.int .i64 0) := by rw [hw6]; exact (((hT9.set0 _).set1 _).set2 _).set3 _
          have hb6 : Below w.heap.size w w6 := by
            rw [hw6]
            exact ((((hb9).setCell (p := ⟨w.heap.size, 0, none⟩) (Nat.le_refl _) _).setCell (p := ⟨w.heap.size, 1, none⟩) (Nat.le_refl _) _).setCell (p := ⟨w.heap.size, 2, none⟩) (Nat.le_refl _) _).setCell (p := ⟨w.heap.size, 3, none⟩) (Nat.le_refl _) _
          have ⟨_, k0, k1, k2, k3, kf⟩ := hT9
          have kf0 := kf 0
          have kf1 := kf 1
          have kf2 := kf 2
          have kf3 := kf 3
          have hw6' := hw6.symm
          clear hw6
          go_wp2_with fail
          clear z0 z1 z2 z3
          clear k0 k1 k2 k3 kf kf0 kf1 kf2 kf3 hw6'
          have ⟨_, r0, r1, r2, r3, _⟩ := hR6
          (try simp only [Exit.inBlock, Exit.then])
          refine bodyPost_ret (by simp [results, Tryd.results28, go_sem, r0, r1, r2, r3]; try rfl) rfl ?_
          exact ⟨by rw [HA.out]; rfl, hb6⟩
        · have Hr := Hrun.out.trans (if_neg (by omega))
          obtain ⟨l, hl3⟩ := get_lt (l := s) (i := t) (by rw [← Hns.out]; omega)
          obtain ⟨bs, offs, al, capl, hsa, hbs0, hcl0, -, hlm, hlc, -⟩ := Hs.out.at_ hl3
          subst hsa
          have hz6 := typeL_six hr (t : Int)
          have Htl := hid (typeL_at hl3)
          rw [Htl.out] at hz6 Hr
          obtain ⟨z, hz⟩ : ∃ z, z = l.length := ⟨_, rfl⟩
          rw [← hz] at hz6 Hr hcl0 hlm
          have hlmz : z ≤ 2 ^ 63 - 1 := by omega
          have hcl := (hb13.cell (p := ⟨bs, offs + t, none⟩) hbs0).trans hcl0
          have htn : (t : Int) < (ns : Int) := by omega
          have hcm := hid (rclaim_any w2.heap.size 0 L cap 1 z 0 (some ⟨bw, offw, none⟩) w3 hLr (by omega) (by omega) (by omega) (by omega) (by omega))
          obtain ⟨⟨c2, e2⟩, hC⟩ : ∃ r, clV L 0 1 z 0 = r := ⟨_, rfl⟩
          rw [hC] at hcm Hr
          cases e2 with
          | some e =>
            obtain ⟨e, q⟩ := e
            simp only at Hr
            have he0 : (e == 0) = false := by
              rw [beq_eq_false_iff_ne]
              have := (clV_bd (L := L) (c := 0) (to := 1) (n := z) (p := 0) (by omega) (by omega)).code e q (by rw [hC])
              omega
            have HA := hid (Hall.out _ _ Hr)
            clear hC hn hts Hr hl3 hz hbq2
            go_wp2_with fail
            ((refine hcm.out.mono ?_); rintro r w5 ⟨rfl, k1, k2⟩)
            obtain ⟨hT9, hb9⟩ := HT.out w5 k2
            have z0 : w5.cell? ⟨w2.heap.size, 0, none⟩ = some (.int .i64 e) := k1.cell 0
            have z1 : w5.cell? ⟨w2.heap.size, 1, none⟩ = some (.int .i64 (q : Int)) := k1.cell 1
            have z2 : w5.cell? ⟨w2.heap.size, 2, none⟩ = some (.bool true) := k1.cell 2
            have z3 : w5.cell? ⟨w2.heap.size, 3, none⟩ = some (.int .i64 (c2 : Int)) := k1.cell 3
            obtain ⟨w6, hw6⟩ : ∃ w6, w6 = (((w5.setCell ⟨w.heap.size, 0, none⟩ (.int .i64 e)).setCell ⟨w.heap.size, 1, none⟩ (.int .i64 (q : Int))).setCell ⟨w.heap.size, 2, none⟩ (.bool true)).setCell ⟨w.heap.size, 3, none⟩ (.int .i64 (c2 : Int)) := ⟨_, rfl⟩
            have hR6 : TB w6 w.heap.size (.int .i64 e) (.int .i64 (q : Int)) (.bool true) (.int .i64 (c2 : Int)) := by rw [hw6]; exact (((hT9.set0 _).set1 _).set2 _).set3 _
            have hb6 : Below w.heap.size w w6 := by
              rw [hw6]
              exact ((((hb9).setCell (p := ⟨w.heap.size, 0, none⟩) (Nat.le_refl _) _).setCell (p := ⟨w.heap.size, 1, none⟩) (Nat.le_refl _) _).setCell (p := ⟨w.heap.size, 2, none⟩) (Nat.le_refl _) _).setCell (p := ⟨w.heap.size, 3, none⟩) (Nat.le_refl _) _
            have ⟨_, k0, k1, k2, k3, kf⟩ := hT9
            have kf0 := kf 0
            have kf1 := kf 1
            have kf2 := kf 2
            have kf3 := kf 3
            have hw6' := hw6.symm
            clear hw6
            go_wp2_with fail
            clear z0 z1 z2 z3
            clear k0 k1 k2 k3 kf kf0 kf1 kf2 kf3 hw6'
            have ⟨_, r0, r1, r2, r3, _⟩ := hR6
            (try simp only [Exit.inBlock, Exit.then])
            refine bodyPost_ret (by simp [results, Tryd.results28, go_sem, r0, r1, r2, r3]; try rfl) rfl ?_
            exact ⟨by rw [HA.out]; rfl, hb6⟩
          | none =>
            simp only at Hr
            obtain ⟨hce, hto, hcl2⟩ := clV_none hC
            rw [← hce] at hcl2
            have hvis := hid (rvisit_any hLx 4)
            unfold RVisC at hvis
            have Hv := hid fun (W : World) (h1 : Below w2.heap.size w2 W) (h2 : LrB W w2.heap.size (c2, none)) => hvis.out t 1 c2 1 W h1 h2 (by rw [← HL.out]; exact hcl2) (by rw [← Hns.out]; omega) (by rw [Htl.out, ← hz, ← HL.out]; exact hto) (by omega)
            rw [← Hr, ← HL.out] at Hv
            obtain ⟨⟨c3, e3⟩, hR⟩ : ∃ r, runW s ws = r := ⟨_, rfl⟩
            have HA := hid (Hall.out _ _ hR)
            rw [hR] at Hv
            clear hC hn hts Hr hl3 hz hce hR hvis hbq2
            go_wp2_with fail
            ((refine hcm.out.mono ?_); rintro r w5 ⟨rfl, k1, k2⟩)
            have z9 : w5.cell? ⟨w2.heap.size, 0, none⟩ = some (.int .i64 0) := k1.cell 0
            have hv5 := hid (Hv.out w5 (below_grown hb3 k2 hb3.size) k1)
            go_wp2_with fail
            ((refine hv5.out.mono ?_); rintro r w7 ⟨rfl, k3, k4⟩)
            have k5 := grown_trans k2 k4
            clear z9
            cases e3 with
            | none =>
              obtain ⟨hT9, hb9⟩ := HT.out w7 k5
              have z0 : w7.cell? ⟨w2.heap.size, 0, none⟩ = some (.int .i64 0) := k3.cell 0
              have z1 : w7.cell? ⟨w2.heap.size, 1, none⟩ = some (.int .i64 0) := k3.cell 1
              have z2 : w7.cell? ⟨w2.heap.size, 2, none⟩ = some (.bool false) := k3.cell 2
              have z3 : w7.cell? ⟨w2.heap.size, 3, none⟩ = some (.int .i64 (c3 : Int)) := k3.cell 3
              obtain ⟨w6, hw6⟩ : ∃ w6, w6 = (((w7.setCell ⟨w.heap.size, 0, none⟩ (.int .i64 0)).setCell ⟨w.heap.size, 1, none⟩ (.int .i64 0)).setCell ⟨w.heap.size, 2, none⟩ (.bool false)).setCell ⟨w.heap.size, 3, none⟩ (.int .i64 (c3 : Int)) := ⟨_, rfl⟩
              have hR6 : TB w6 w.heap.size (.int .i64 0) (.int .i64 0) (.bool false) (.int .i64 (c3 : Int)) := by rw [hw6]; exact (((hT9.set0 _).set1 _).set2 _).set3 _
              have hb6 : Below w.heap.size w w6 := by
                rw [hw6]
                exact ((((hb9).setCell (p := ⟨w.heap.size, 0, none⟩) (Nat.le_refl _) _).setCell (p := ⟨w.heap.size, 1, none⟩) (Nat.le_refl _) _).setCell (p := ⟨w.heap.size, 2, none⟩) (Nat.le_refl _) _).setCell (p := ⟨w.heap.size, 3, none⟩) (Nat.le_refl _) _
              have ⟨_, k0, k1, k2, k3, kf⟩ := hT9
              have kf0 := kf 0
              have kf1 := kf 1
              have kf2 := kf 2
              have kf3 := kf 3
              have hw6' := hw6.symm
              clear hw6
              go_wp2_with fail
              clear z0 z1 z2 z3
              clear k0 k1 k2 k3 kf kf0 kf1 kf2 kf3 hw6'
              have ⟨_, r0, r1, r2, r3, _⟩ := hR6
              (try simp only [Exit.inBlock, Exit.then])
              refine bodyPost_ret (by simp [results, Tryd.results28, go_sem, r0, r1, r2, r3]; try rfl) rfl ?_
              exact ⟨by rw [HA.out]; rfl, hb6⟩
            | some e =>
              obtain ⟨e, q⟩ := e
              obtain ⟨hT9, hb9⟩ := HT.out w7 k5
              have z0 : w7.cell? ⟨w2.heap.size, 0, none⟩ = some (.int .i64 e) := k3.cell 0
              have z1 : w7.cell? ⟨w2.heap.size, 1, none⟩ = some (.int .i64 (q : Int)) := k3.cell 1
              have z2 : w7.cell? ⟨w2.heap.size, 2, none⟩ = some (.bool true) := k3.cell 2
              have z3 : w7.cell? ⟨w2.heap.size, 3, none⟩ = some (.int .i64 (c3 : Int)) := k3.cell 3
              obtain ⟨w6, hw6⟩ : ∃ w6, w6 = (((w7.setCell ⟨w.heap.size, 0, none⟩ (.int .i64 e)).setCell ⟨w.heap.size, 1, none⟩ (.int .i64 (q : Int))).setCell ⟨w.heap.size, 2, none⟩ (.bool true)).setCell ⟨w.heap.size, 3, none⟩ (.int .i64 (c3 : Int)) := ⟨_, rfl⟩
              have hR6 : TB w6 w.heap.size (.int .i64 e) (.int .i64 (q : Int)) (.bool true) (.int .i64 (c3 : Int)) := by rw [hw6]; exact (((hT9.set0 _).set1 _).set2 _).set3 _
              have hb6 : Below w.heap.size w w6 := by
                rw [hw6]
                exact ((((hb9).setCell (p := ⟨w.heap.size, 0, none⟩) (Nat.le_refl _) _).setCell (p := ⟨w.heap.size, 1, none⟩) (Nat.le_refl _) _).setCell (p := ⟨w.heap.size, 2, none⟩) (Nat.le_refl _) _).setCell (p := ⟨w.heap.size, 3, none⟩) (Nat.le_refl _) _
              have ⟨_, k0, k1, k2, k3, kf⟩ := hT9
              have kf0 := kf 0
              have kf1 := kf 1
              have kf2 := kf 2
              have kf3 := kf 3
              have hw6' := hw6.symm
              clear hw6
              go_wp2_with fail
              clear z0 z1 z2 z3
              clear k0 k1 k2 k3 kf kf0 kf1 kf2 kf3 hw6'
              have ⟨_, r0, r1, r2, r3, _⟩ := hR6
              (try simp only [Exit.inBlock, Exit.then])
              refine bodyPost_ret (by simp [results, Tryd.results28, go_sem, r0, r1, r2, r3]; try rfl) rfl ?_
              exact ⟨by rw [HA.out]; rfl, hb6⟩
      · have hbf : decide (lx ≠ L) = true := decide_eq_true hn
        rw [hbf] at hbq
        have HA := hid (Hall.out 0 (some (10, 0)) (Hrun.out.trans (if_pos (.inl hn))))
        clear hn
        have hwr := hid (rwrong_any w2.heap.size 0 0 10 w3 hLr)
        go_wp2_with fail
        ((refine hwr.out.mono ?_); rintro r w5 ⟨rfl, k1, k2⟩)
        obtain ⟨hT9, hb9⟩ := HT.out w5 k2
        have z0 : w5.cell? ⟨w2.heap.size, 0, none⟩ = some (.int .i64 10) := k1.cell 0
        have z1 : w5.cell? ⟨w2.heap.size, 1, none⟩ = some (.int .i64 0) := k1.cell 1
        have z2 : w5.cell? ⟨w2.heap.size, 2, none⟩ = some (.bool true) := k1.cell 2
        have z3 : w5.cell? ⟨w2.heap.size, 3, none⟩ = some (.int .i64 0) := k1.cell 3
        obtain ⟨w6, hw6⟩ : ∃ w6, w6 = (((w5.setCell ⟨w.heap.size, 0, none⟩ (.int .i64 10)).setCell ⟨w.heap.size, 1, none⟩ (.int .i64 0)).setCell ⟨w.heap.size, 2, none⟩ (.bool true)).setCell ⟨w.heap.size, 3, none⟩ (.int .i64 0) := ⟨_, rfl⟩
        have hR6 : TB w6 w.heap.size (.int .i64 10) (.int .i64 0) (.bool true) (.int .i64 0) := by rw [hw6]; exact (((hT9.set0 _).set1 _).set2 _).set3 _
        have hb6 : Below w.heap.size w w6 := by
          rw [hw6]
          exact ((((hb9).setCell (p := ⟨w.heap.size, 0, none⟩) (Nat.le_refl _) _).setCell (p := ⟨w.heap.size, 1, none⟩) (Nat.le_refl _) _).setCell (p := ⟨w.heap.size, 2, none⟩) (Nat.le_refl _) _).setCell (p := ⟨w.heap.size, 3, none⟩) (Nat.le_refl _) _
        have ⟨_, k0, k1, k2, k3, kf⟩ := hT9
        have kf0 := kf 0
        have kf1 := kf 1
        have kf2 := kf 2
        have kf3 := kf 3
        have hw6' := hw6.symm
        clear hw6
        go_wp2_with fail
        clear z0 z1 z2 z3
        clear k0 k1 k2 k3 kf kf0 kf1 kf2 kf3 hw6'
        have ⟨_, r0, r1, r2, r3, _⟩ := hR6
        (try simp only [Exit.inBlock, Exit.then])
        refine bodyPost_ret (by simp [results, Tryd.results28, go_sem, r0, r1, r2, r3]; try rfl) rfl ?_
        exact ⟨by rw [HA.out]; rfl, hb6⟩
end SRCheck

end Go.Proofs.YtblbhlgihlgncaaDoor

